/-
  The contract of the reference's Take of numbers, whole.
-/
import Derived.Test.YtlhimfkhcdpciaaWRefTakeS
import Derived.Test.YtlhimfkhcdpciaaWRefTakeW
namespace Go.Proofs.Ytlhimfkhcdpciaa.WRefTake2
open Go.RowKit Go.Proofs.YtlhimfkhcdpciaaW.PrintWords Go.Proofs.YtlhimfkhcdpciaaW.PrintLast Go.Proofs.YtlhimfkhcdpciaaW.PrintMore Go.Proofs.Ytlhimfkhcdpciaa.Num Go.Proofs.Ytlhimfkhcdpciaa.Bits Go.Proofs.Ytlhimfkhcdpciaa.VarM Go.Proofs.Ytlhimfkhcdpciaa.CGet64 Go.Proofs.Ytlhimfkhcdpciaa.Ints Go.Proofs.Ytlhimfkhcdpciaa.IntsT Go.Proofs.Ytlhimfkhcdpciaa.Hold Go.Proofs.Ytlhimfkhcdpciaa.CRef Go.Proofs.Ytlhimfkhcdpciaa.RVar Go.Proofs.Ytlhimfkhcdpciaa.CRefTake Go.Proofs.Ytlhimfkhcdpciaa.WRefTake
open Go.Proofs.Ytlhimfkhcdpciaa.CTake2 (parts)
set_option linter.unusedVariables false
set_option linter.unusedSimpArgs false
attribute [local go_sem] max2_int min2_int max_two min_two max_three min_three max_four min_four

set_option maxHeartbeats 8000000 in
set_option maxRecDepth 100000 in
theorem refGuard (A : Option Addr) (c : Nat) (b : List Int) (w : World) (hr : Kd.C (Kd.int .u8) w A b.length b) (hc : b.length ≤ c) (hb : Bytes b) (hl : b.length < 1000000000) (n p : Int) (hv : var b = (n, p)) (hg : p = 0 ∨ n > 2000 ∨ p ≥ b.length) :
    Calls Try.prog 15 #[.slice A b.length c] w (Post none w) := by
  have hvc := fun W h => refVar A c b W h hc hb
  rw [hv] at hvc
  have HV := Aside0.mk hvc
  have HR := Aside0.mk hr
  clear hvc hv hb hr
  by_cases h0 : p = 0
  · subst h0
    clear hg
    go_enter Try.func15, Try.ntmps15
    go_wp2_with (fail)
    refine (HV.out _ HR.out).mono ?_; rintro e w1 ⟨rfl, hb⟩
    have HB := Aside0.mk hb
    clear hb
    go_wp2_with (fail)
    go_ret2
    exact ⟨below_step (Below.refl _ _) HB.out, rfl⟩
  · have hp0 : (p == 0) = false := beq_eq_false_iff_ne.mpr h0
    by_cases h1 : n > 2000
    · have hn : decide ((2000 : Int) < n) = true := decide_eq_true h1
      clear hg h0
      go_enter Try.func15, Try.ntmps15
      go_wp2_with (fail)
      refine (HV.out _ HR.out).mono ?_; rintro e w1 ⟨rfl, hb⟩
      have HB := Aside0.mk hb
      clear hb
      go_wp2_with (fail)
      go_ret2
      exact ⟨below_step (Below.refl _ _) HB.out, rfl⟩
    · have hn : decide ((2000 : Int) < n) = false := decide_eq_false h1
      have hp : decide ((b.length : Int) ≤ p) = true := decide_eq_true (by omega)
      clear hg h0
      go_enter Try.func15, Try.ntmps15
      go_wp2_with (fail)
      refine (HV.out _ HR.out).mono ?_; rintro e w1 ⟨rfl, hb⟩
      have HB := Aside0.mk hb
      clear hb
      go_wp2_with (fail)
      go_ret2
      exact ⟨below_step (Below.refl _ _) HB.out, rfl⟩

theorem refTake (A : Option Addr) (c : Nat) (b : List Int) (w : World) (hr : Kd.C (Kd.int .u8) w A b.length b) (hc : b.length ≤ c) (hb : Bytes b) (hl : b.length < 1000000000) :
    Calls Try.prog 15 #[.slice A b.length c] w (Post (takeM b) w) := by
  by_cases hg : (var b).2 = 0 ∨ (var b).1 > 2000 ∨ (var b).2 ≥ b.length
  · have h : takeM b = none := by unfold takeM; rw [if_pos hg]
    rw [h]
    exact refGuard A c b w hr hc hb hl _ _ rfl hg
  · obtain ⟨n, p, hv, h0, hn, hp⟩ := parts hb hg
    by_cases hway : b.getD p 0 = 1
    · have h : WRefTake.Fin (stepsR (b.drop (p + 1)) n 0) b = takeM b := by
        unfold takeM
        rw [if_neg hg]
        unfold takeL WRefTake.Fin
        rw [hv]
        simp only [Int.toNat_natCast]
        rw [if_pos hway]
      exact WRefTakeS.take_steps A c b w hr hc hb hl n p hv h0 hn hp hway _ h
    · have h : WRefTake.Fin (wideR (b.drop (p + 1)) n) b = takeM b := by
        unfold takeM
        rw [if_neg hg]
        unfold takeL WRefTake.Fin
        rw [hv]
        simp only [Int.toNat_natCast]
        rw [if_neg hway]
      exact WRefTakeW.take_wide A c b w hr hc hb hl n p hv h0 hn hp hway _ h

end Go.Proofs.Ytlhimfkhcdpciaa.WRefTake2
