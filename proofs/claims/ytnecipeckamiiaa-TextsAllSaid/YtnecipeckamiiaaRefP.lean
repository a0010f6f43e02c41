/-
  Plain mathematics of the reference's ways to put numbers: what its printed loops tell. No program in sight.
-/
import Derived.Test.YtnecipeckamiiaaVarM
namespace Go.Proofs.Ytnecipeckamiiaa.RefP
open Go.RowKit Go.Proofs.YtnecipeckamiiaaW.PrintWords Go.Proofs.YtnecipeckamiiaaW.PrintMore Go.Proofs.Ytnecipeckamiiaa.Bits Go.Proofs.Ytnecipeckamiiaa.Num Go.Proofs.Ytnecipeckamiiaa.VarM

theorem refput_loop {l0 : Nat → Int → List Int → Option (List Int)}
    (hl : ∀ k x acc, l0 (k + 1) x acc = if x ≥ 128 then (if acc.length < 140737488355328 then (l0 k (IntKind.u64.wrap (Int.tdiv x 128)) (acc ++ [((Int.tmod x 128) + 128) % 256])) else (none)) else (if acc.length < 140737488355328 then (some (acc ++ [(x) % 256])) else (none)))
    (d : Nat) : ∀ (x : Nat) (k : Nat) (acc : List Int), x < 128 ^ (d + 1) → x < 18446744073709551616 → d < k → acc.length + d < 140737488355328 → l0 k x acc = some (acc ++ pv x) := by
  induction d with
  | zero =>
    intro x k acc hx _ hk ha
    obtain ⟨k, rfl⟩ : ∃ m, k = m + 1 := ⟨k - 1, by omega⟩
    rw [hl, if_neg (by omega), if_pos (by omega), pv_small (by omega)]
    congr 3
    omega
  | succ d ih =>
    intro x k acc hx hx64 hk ha
    obtain ⟨k, rfl⟩ : ∃ m, k = m + 1 := ⟨k - 1, by omega⟩
    rw [hl]
    by_cases h : x < 128
    · rw [if_neg (by omega), if_pos (by omega), pv_small h]
      congr 3
      omega
    · rw [if_pos (by omega), if_pos (by omega), pv_big (by omega)]
      have e1 : IntKind.u64.wrap (Int.tdiv (x : Int) 128) = ((x / 128 : Nat) : Int) := by
        rw [Int.tdiv_eq_ediv_of_nonneg (by omega), wrap_u64_id (by omega) (by omega)]; omega
      have e2 : ((Int.tmod (x : Int) 128) + 128) % 256 = ((x % 128 + 128 : Nat) : Int) := by
        rw [Int.tmod_eq_emod_of_nonneg (by omega)]; omega
      rw [e1, e2, ih (x / 128) k _ (by rw [Nat.pow_succ] at hx; omega) (by omega) (by omega) (by simp; omega)]
      simp

end Go.Proofs.Ytnecipeckamiiaa.RefP
