/-
  Closed facts of the row of TopDesk, each by itself, in several texts: all in one the kernel's memory runs out.
-/
import Derived.Test.YtbjeejimedhniaaGreatDoorLFaTopDesk
import Derived.Test.YtbjeejimedhniaaGreatDoorLFbTopDesk
import Derived.Test.YtbjeejimedhniaaGreatDoorLFcTopDesk
import Derived.Test.YtbjeejimedhniaaGreatDoorLFdTopDesk
import Derived.Test.YtbjeejimedhniaaGreatDoorLFeTopDesk
import Derived.JoinedOf
import Derived.SevenTiedAt
namespace Go.Proofs.YtbjeejimedhniaaGreatDoor.topDeskF
open Go
set_option maxRecDepth 100000
theorem closed : joinedFacts Tryz.prog 5 Tryz.f5 Rows.topDeskSpec Rows.topDeskRow = true := by
  unfold joinedFacts
  simp only [Bool.and_eq_true]
  exact ⟨⟨⟨⟨⟨⟨⟨⟨⟨⟨⟨⟨⟨⟨⟨⟨⟨⟨⟨⟨⟨⟨⟨⟨⟨⟨⟨⟨⟨⟨⟨k1, k2⟩, k3⟩, k4⟩, k5⟩, k6⟩, k7⟩, k8⟩, k9⟩, k10⟩, k11⟩, k12⟩, k13⟩, k14⟩, k15⟩, k16⟩, k17⟩, k18⟩, k19⟩, k20⟩, k21⟩, k22⟩, k23⟩, k24⟩, k25⟩, k26⟩, k27⟩, k28⟩, k29⟩, k30⟩, k31⟩, k32⟩
end Go.Proofs.YtbjeejimedhniaaGreatDoor.topDeskF
