/-
  The contract of ints.Take, whole.
-/
import Derived.Test.YtlhimfkhcdpciaaCTake
namespace Go.Proofs.Ytlhimfkhcdpciaa.CTake2
open Go.RowKit Go.Proofs.YtlhimfkhcdpciaaW.PrintWords Go.Proofs.YtlhimfkhcdpciaaW.PrintLast Go.Proofs.YtlhimfkhcdpciaaW.PrintMore Go.Proofs.Ytlhimfkhcdpciaa.Num Go.Proofs.Ytlhimfkhcdpciaa.Bits Go.Proofs.Ytlhimfkhcdpciaa.VarM Go.Proofs.Ytlhimfkhcdpciaa.CGet64 Go.Proofs.Ytlhimfkhcdpciaa.Ints Go.Proofs.Ytlhimfkhcdpciaa.IntsT Go.Proofs.Ytlhimfkhcdpciaa.Hold Go.Proofs.Ytlhimfkhcdpciaa.CTake
open Go.Proofs.Ytlhimfkhcdpciaa.CVar (varC len_f)
set_option linter.unusedVariables false
set_option linter.unusedSimpArgs false
attribute [local go_sem] max2_int min2_int max_two min_two max_three min_three max_four min_four

set_option maxHeartbeats 8000000 in
set_option maxRecDepth 100000 in
theorem guard (A : Option Addr) (c : Nat) (b : List Int) (w : World) (hr : Kd.C (Kd.int .u8) w A b.length b) (hc : b.length ≤ c) (hb : Bytes b) (hl : b.length < 1000000000) (n p : Int) (hv : var b = (n, p)) (hg : p = 0 ∨ n > 2000 ∨ p ≥ b.length) :
    Calls Try.prog 14 #[.slice A b.length c] w fun e w' => e = .returned (.tuple #[.slice none 0 0, .int .i64 10]) ∧ Below w.heap.size w w' := by
  have hvc := fun W h => varC A c b W h hc hb (by omega)
  rw [hv] at hvc
  have HV := Aside0.mk hvc
  have HR := Aside0.mk hr
  clear hvc hv hb hr
  by_cases h0 : p = 0
  · subst h0
    clear hg
    go_enter Try.func14, Try.ntmps14
    go_wp2_with (fail)
    refine (HV.out _ HR.out).mono ?_; rintro e w1 ⟨rfl, ⟨nd, rfl⟩⟩
    go_wp2_with (fail)
    go_ret2
    exact ⟨rfl, pw_below_drewN (Below.refl _ _) _⟩
  · have hp0 : (p == 0) = false := beq_eq_false_iff_ne.mpr h0
    by_cases h1 : n > 2000
    · have hn : decide ((2000 : Int) < n) = true := decide_eq_true h1
      clear hg h0
      go_enter Try.func14, Try.ntmps14
      go_wp2_with (fail)
      refine (HV.out _ HR.out).mono ?_; rintro e w1 ⟨rfl, ⟨nd, rfl⟩⟩
      go_wp2_with (fail)
      go_ret2
      exact ⟨rfl, pw_below_drewN (Below.refl _ _) _⟩
    · have hn : decide ((2000 : Int) < n) = false := decide_eq_false h1
      have hp : decide ((b.length : Int) ≤ p) = true := decide_eq_true (by omega)
      clear hg h0
      go_enter Try.func14, Try.ntmps14
      go_wp2_with (fail)
      refine (HV.out _ HR.out).mono ?_; rintro e w1 ⟨rfl, ⟨nd, rfl⟩⟩
      go_wp2_with (fail)
      go_ret2
      exact ⟨rfl, pw_below_drewN (Below.refl _ _) _⟩

/-- What is known where the guards let by. -/
theorem parts {b : List Int} (hb : Bytes b) (hg : ¬ ((var b).2 = 0 ∨ (var b).1 > 2000 ∨ (var b).2 ≥ b.length)) : ∃ n p : Nat, var b = ((n : Int), (p : Int)) ∧ 1 ≤ p ∧ n ≤ 2000 ∧ p < b.length := by
  have h := var_range hb
  refine ⟨(var b).1.toNat, (var b).2.toNat, ?_, by omega, by omega, by omega⟩
  refine Prod.ext ?_ ?_ <;> simp only <;> omega

theorem take_none (A : Option Addr) (c : Nat) (b : List Int) (w : World) (hr : Kd.C (Kd.int .u8) w A b.length b) (hc : b.length ≤ c) (hb : Bytes b) (hl : b.length < 1000000000) (ht : takeM b = none) :
    Calls Try.prog 14 #[.slice A b.length c] w fun e w' => e = .returned (.tuple #[.slice none 0 0, .int .i64 10]) ∧ Below w.heap.size w w' := by
  by_cases hg : (var b).2 = 0 ∨ (var b).1 > 2000 ∨ (var b).2 ≥ b.length
  · exact guard A c b w hr hc hb hl _ _ rfl hg
  · obtain ⟨n, p, hv, h0, hn, hp⟩ := parts hb hg
    unfold takeM at ht
    rw [if_neg hg] at ht
    unfold takeL at ht
    rw [hv] at ht
    simp only [Int.toNat_natCast] at ht
    by_cases hway : b.getD p 0 = 1
    · rw [if_pos hway] at ht
      cases hT : stepsR (b.drop (p + 1)) n 0 with
      | none => exact steps_bad A c b w hr hc hb hl n p hv h0 hn hp hway hT
      | some q =>
        obtain ⟨x, r⟩ := q
        rw [hT] at ht
        have hx := stepsR_length _ _ _ _ hT
        by_cases hput : put x = b
        · rw [Option.map_some, Option.bind_some, if_pos hput] at ht; cases ht
        · exact steps_other A c b w hr hc hb hl n p hv h0 hn hp hway x r hT (by simp only at hx; omega) hput
    · rw [if_neg hway] at ht
      cases hT : wideR (b.drop (p + 1)) n with
      | none => exact wide_bad A c b w hr hc hb hl n p hv h0 hn hp hway hT
      | some q =>
        obtain ⟨x, r⟩ := q
        rw [hT] at ht
        have hx := wideR_length _ _ _ hT
        by_cases hput : put x = b
        · rw [Option.map_some, Option.bind_some, if_pos hput] at ht; cases ht
        · exact wide_other A c b w hr hc hb hl n p hv h0 hn hp hway x r hT (by simp only at hx; omega) hput
theorem take_some (A : Option Addr) (c : Nat) (b : List Int) (w : World) (hr : Kd.C (Kd.int .u8) w A b.length b) (hc : b.length ≤ c) (hb : Bytes b) (hl : b.length < 1000000000) (x : List Int) (ht : takeM b = some x) :
    Calls Try.prog 14 #[.slice A b.length c] w fun e w' => ∃ A' c', e = .returned (.tuple #[.slice A' x.length c', .int .i64 0]) ∧ x.length ≤ c' ∧ Kd.C (Kd.int .i64) w' A' x.length x ∧ Below w.heap.size w w' := by
  obtain ⟨hput, hx, hL⟩ := takeM_some ht
  by_cases hg : (var b).2 = 0 ∨ (var b).1 > 2000 ∨ (var b).2 ≥ b.length
  · unfold takeM at ht
    rw [if_pos hg] at ht
    cases ht
  · obtain ⟨n, p, hv, h0, hn, hp⟩ := parts hb hg
    unfold takeL at hL
    rw [hv] at hL
    simp only [Int.toNat_natCast] at hL
    by_cases hway : b.getD p 0 = 1
    · rw [if_pos hway] at hL
      obtain ⟨⟨x', r⟩, hT, rfl⟩ := Option.map_eq_some_iff.1 hL
      exact steps_good A c b w hr hc hb hl n p hv h0 hn hp hway x' r hT hx hput
    · rw [if_neg hway] at hL
      obtain ⟨⟨x', r⟩, hT, rfl⟩ := Option.map_eq_some_iff.1 hL
      exact wide_good A c b w hr hc hb hl n p hv h0 hn hp hway x' r hT hx hput

end Go.Proofs.Ytlhimfkhcdpciaa.CTake2
