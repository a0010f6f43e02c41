/-
  Closed facts of the row of TopDesk, each by itself, in several texts: all in one the kernel's memory runs out.
-/
import Derived.Test.YtbjeejimedhniaaGreatDoorRows
import Derived.JoinedOf
import Derived.SevenTiedAt
namespace Go.Proofs.YtbjeejimedhniaaGreatDoor.topDeskF
open Go
set_option maxRecDepth 100000
theorem k1 : Rows.topDeskRow.wf (OpenSpec.ofChange Rows.topDeskSpec) = true := by kernel_rfl
theorem k2 : laidOutB Tryz.prog = true := by kernel_rfl
theorem k3 : mapsRowed Tryz.prog = true := by kernel_rfl
theorem k4 : Tryz.f5.params.all (Tryz.prog.readableRec ·) = true := by kernel_rfl
theorem k5 : namedTie Tryz.prog Rows.topDeskRow.named Rows.topDeskSpec.vars = true := by kernel_rfl
theorem k6 : (Rows.topDeskRow.stops == []) = true := by kernel_rfl
theorem k7 : (Tryz.prog.stops == []) = true := by kernel_rfl
theorem k8 : (Rows.topDeskRow.knobs == []) = true := by kernel_rfl
theorem k9 : (Tryz.prog.stopKnobs == []) = true := by kernel_rfl
end Go.Proofs.YtbjeejimedhniaaGreatDoor.topDeskF
