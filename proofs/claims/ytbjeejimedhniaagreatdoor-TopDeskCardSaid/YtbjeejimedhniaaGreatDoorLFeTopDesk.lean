/-
  Closed facts of the row of TopDesk, each by itself, in several texts: all in one the kernel's memory runs out.
-/
import Derived.Test.YtbjeejimedhniaaGreatDoorRows
import Derived.JoinedOf
import Derived.SevenTiedAt
namespace Go.Proofs.YtbjeejimedhniaaGreatDoor.topDeskF
open Go
set_option maxRecDepth 100000
theorem main_is : Tryz.prog.mainIs = some (true, "b8beb5667e2fc859e25c25adcc9cc0a4d7a81d06a103ce16388bfd4b44821532".toList) := by kernel_rfl
theorem wft : Rows.topDeskRow.wfByText (OpenSpec.ofChange Rows.topDeskSpec) = true := by kernel_rfl
theorem looks : true = Tryz.prog.looks [] := by kernel_rfl
theorem goes : false = Rows.topDeskRow.goesBy Tryz.prog := by kernel_rfl
end Go.Proofs.YtbjeejimedhniaaGreatDoor.topDeskF
