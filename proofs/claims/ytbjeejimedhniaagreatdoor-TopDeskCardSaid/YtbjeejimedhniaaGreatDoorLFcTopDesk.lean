/-
  Closed facts of the row of TopDesk, each by itself, in several texts: all in one the kernel's memory runs out.
-/
import Derived.Test.YtbjeejimedhniaaGreatDoorRows
import Derived.JoinedOf
import Derived.SevenTiedAt
namespace Go.Proofs.YtbjeejimedhniaaGreatDoor.topDeskF
open Go
set_option maxRecDepth 100000
theorem k12 : (Rows.topDeskRow.recurses == Tryz.prog.recurses 5) = true := by kernel_rfl
theorem k13 : (Rows.topDeskRow.named == Tryz.prog.varsNamed 5) = true := by kernel_rfl
end Go.Proofs.YtbjeejimedhniaaGreatDoor.topDeskF
