/-
  Closed facts of the row of TopLast, each by itself, in several texts: all in one the kernel's memory runs out.
-/
import Derived.Test.YtbjeejimedhniaaGreatDoorRows
import Derived.JoinedOf
import Derived.SevenTiedAt
namespace Go.Proofs.YtbjeejimedhniaaGreatDoor.topLastF
open Go
set_option maxRecDepth 100000
theorem k10 : (Rows.topLastRow.inPlace == Tryz.prog.inPlace 3) = true := by kernel_rfl
theorem k11 : (Rows.topLastRow.unfollowed == Tryz.prog.unfollowed 3) = true := by kernel_rfl
end Go.Proofs.YtbjeejimedhniaaGreatDoor.topLastF
