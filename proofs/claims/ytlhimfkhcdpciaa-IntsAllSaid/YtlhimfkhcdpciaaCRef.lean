/-
  The contracts of the reference's ways to put and to read numbers.
-/
import Derived.Test.YtlhimfkhcdpciaaRVar
import Derived.Test.YtlhimfkhcdpciaaQIntsAllx4
import Derived.Test.YtlhimfkhcdpciaaQIntsAllx3
import Derived.Test.YtlhimfkhcdpciaaQIntsAllx3
import Derived.Test.YtlhimfkhcdpciaaQIntsAllx4
import Derived.Test.YtlhimfkhcdpciaaRefM
import Derived.Test.YtlhimfkhcdpciaaHold
namespace Go.Proofs.Ytlhimfkhcdpciaa.CRef
open Go.RowKit Go.Proofs.Ytlhimfkhcdpciaa.QIntsAll Go.Proofs.YtlhimfkhcdpciaaW.PrintWords Go.Proofs.YtlhimfkhcdpciaaW.PrintLast Go.Proofs.YtlhimfkhcdpciaaW.PrintMore Go.Proofs.Ytlhimfkhcdpciaa.Num Go.Proofs.Ytlhimfkhcdpciaa.Bits Go.Proofs.Ytlhimfkhcdpciaa.VarM Go.Proofs.Ytlhimfkhcdpciaa.RefM Go.Proofs.Ytlhimfkhcdpciaa.CGet64 Go.Proofs.Ytlhimfkhcdpciaa.Hold Go.Proofs.Ytlhimfkhcdpciaa.RVar
set_option linter.unusedVariables false
set_option linter.unusedSimpArgs false
attribute [local go_sem] max2_int min2_int max_two min_two max_three min_three max_four min_four

theorem refPut64 (x : Int) (h0 : 0 ≤ x) (h1 : x ≤ 18446744073709551615) (w : World) :
    Calls Try.prog 29 #[.int .u64 x] w fun e w' => ∃ v, e = .returned v ∧ Kd.R (Kd.int .u8) 5 w' w.heap.size (fun _ => True) v (cl x) ∧ Below w.heap.size w w' :=
  thresherref01_Put64.calls 9 x (cl x) w (refput64 (l0 := thresherref01_Put64.l0) (fun _ _ _ _ => rfl) x h0 h1)
theorem refZig (n : Int) (h0 : -9223372036854775808 ≤ n) (h1 : n ≤ 9223372036854775807) (w : World) :
    Calls Try.prog 31 #[.int .i64 n] w fun e w' => e = .returned (.int .u64 (zig n)) ∧ Drawn0 w w' :=
  thresherref01_Zig.calls n _ w (refzig n h0 h1)
theorem refZag (u : Int) (h0 : 0 ≤ u) (h1 : u ≤ 18446744073709551615) (w : World) :
    Calls Try.prog 28 #[.int .u64 u] w fun e w' => e = .returned (.int .i64 (zag u)) ∧ Drawn0 w w' :=
  thresherref01_Zag.calls u _ w (refzag u h0 h1)
theorem refGet64 (A : Option Addr) (c : Nat) (l : List Int) (w : World) (hr : Kd.C (Kd.int .u8) w A l.length l) (hc : l.length ≤ c) (hb : Bytes l) :
    Calls Try.prog 27 #[.slice A l.length c] w fun e w' => e = .returned (.tuple #[.int .u64 (g64 l).1, .bool (g64 l).2]) ∧ Drawn0 w w' := by
  refine thresherref01_Get64.calls 9 A c l _ _ w hr hc ?_
  unfold thresherref01_Get64.f g64
  by_cases h : l.length < 8
  · rw [if_pos (by omega), if_pos h]
  · rw [if_neg (by omega), if_neg h]
    exact refget64 (l0 := thresherref01_Get64.l0) (fun _ _ _ _ => rfl) l hb h

end Go.Proofs.Ytlhimfkhcdpciaa.CRef
