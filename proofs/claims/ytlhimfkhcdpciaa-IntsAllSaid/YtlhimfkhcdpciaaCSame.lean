/-
  The contracts of few and of Same, at rows that are the same.
-/
import Derived.Test.YtlhimfkhcdpciaaQIntsAllx5
import Derived.Test.YtlhimfkhcdpciaaWIntsLength
namespace Go.Proofs.Ytlhimfkhcdpciaa.CSame
open Go.RowKit Go.Proofs.Ytlhimfkhcdpciaa.QIntsAll Go.Proofs.YtlhimfkhcdpciaaW.PrintWords Go.Proofs.YtlhimfkhcdpciaaW.PrintLast Go.Proofs.YtlhimfkhcdpciaaW.PrintMore Go.Proofs.Ytlhimfkhcdpciaa.Num Go.Proofs.Ytlhimfkhcdpciaa.Bits Go.Proofs.Ytlhimfkhcdpciaa.Ints Go.Proofs.Ytlhimfkhcdpciaa.Hold
set_option linter.unusedVariables false

theorem same_loop (l : List Int) (hn : l.length < 1000000000) (d : Nat) : ∀ (k i : Nat), i + d = l.length → d < k → thresherref05_Same.l0 k l l (i : Int) = some true := by
  induction d with
  | zero =>
    intro k i hi hk
    obtain ⟨k, rfl⟩ : ∃ m, k = m + 1 := ⟨k - 1, by omega⟩
    rw [thresherref05_Same.l0, if_neg (by omega)]
  | succ d ih =>
    intro k i hi hk
    obtain ⟨k, rfl⟩ : ∃ m, k = m + 1 := ⟨k - 1, by omega⟩
    have e : wrap64 ((i : Int) + 1) = ((i + 1 : Nat) : Int) := by rw [wrap64_id (by omega) (by omega)]; rfl
    rw [thresherref05_Same.l0, if_pos (by omega), if_pos (by omega), if_pos (by omega), if_pos rfl, e]
    exact ih k (i + 1) (by omega) (by omega)
theorem same (A A' : Option Addr) (c c' : Nat) (l : List Int) (w : World) (hr : Kd.C (Kd.int .i64) w A l.length l) (hc : l.length ≤ c) (hr' : Kd.C (Kd.int .i64) w A' l.length l) (hc' : l.length ≤ c') (hn : l.length < 1000000000) :
    Calls Try.prog 16 #[.slice A l.length c, .slice A' l.length c'] w fun e w' => e = .returned (.bool true) ∧ Drawn0 w w' := by
  refine thresherref05_Same.calls (l.length + 1) A c l A' c' l true w hr hc hr' hc' ?_
  unfold thresherref05_Same.f
  rw [if_pos rfl]
  exact same_loop l hn l.length (l.length + 1) 0 (by omega) (by omega)

end Go.Proofs.Ytlhimfkhcdpciaa.CSame
