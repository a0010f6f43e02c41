/-
  The contract of Var, in plain words.
-/
import Derived.Test.YtnecipeckamiiaaQTextsAllx1
import Derived.Test.YtnecipeckamiiaaVarM
namespace Go.Proofs.Ytnecipeckamiiaa.CVar
open Go.RowKit Go.Proofs.Ytnecipeckamiiaa.QTextsAll Go.Proofs.YtnecipeckamiiaaW.PrintWords Go.Proofs.YtnecipeckamiiaaW.PrintLast Go.Proofs.YtnecipeckamiiaaW.PrintMore Go.Proofs.Ytnecipeckamiiaa.Num Go.Proofs.Ytnecipeckamiiaa.Bits Go.Proofs.Ytnecipeckamiiaa.VarM

theorem len_f (k p : Nat) (hp : p < 128) : bits_Len64.f k (p : Int) = some (Lib.bitLen p : Int) := by
  unfold bits_Len64.f
  rw [if_pos ⟨by omega, by omega⟩, Int.toNat_natCast]
theorem var_f (l : List Int) (hb : Bytes l) (hn : l.length < 1000000000000) : num_Var.f (2 * l.length + 1) l = some (var l) := by
  unfold num_Var.f
  have h := var_loop (l0 := num_Var.l0) (j1 := num_Var.j1) (lf := bits_Len64.f) (fun _ _ _ _ _ _ => rfl) (fun _ _ _ _ _ _ _ _ _ _ => rfl) len_f l hb hn l.length (2 * l.length + 1) 0 0 (by omega) (by omega) (by omega) (by simp)
  exact h
theorem varC (A : Option Addr) (c : Nat) (l : List Int) (w : World) (hr : Kd.C (Kd.int .u8) w A l.length l) (hc : l.length ≤ c) (hb : Bytes l) (hn : l.length < 1000000000000) :
    Calls Try.prog 31 #[.slice A l.length c] w fun e w' => e = .returned (.tuple #[.int .u64 (var l).1, .int .i64 (var l).2]) ∧ Drawn0 w w' :=
  num_Var.calls (2 * l.length + 1) A c l (var l).1 (var l).2 w hr hc (var_f l hb hn)

end Go.Proofs.Ytnecipeckamiiaa.CVar
