/- A number has as many bytes as it must: one more for each seven bits: of any number and any count of bits, without a condition. The walk. -/
import Derived.Test.YtjemdpbbdkfamaaCNum
namespace Go.Proofs.Ytjemdpbbdkfamaa.WNumShort
open Go.RowKit Go.Proofs.YtjemdpbbdkfamaaW.PrintWords Go.Proofs.YtjemdpbbdkfamaaW.PrintLast Go.Proofs.YtjemdpbbdkfamaaW.PrintMore Go.Proofs.Ytjemdpbbdkfamaa.Num Go.Proofs.Ytjemdpbbdkfamaa.Bits Go.Proofs.Ytjemdpbbdkfamaa.CNum
attribute [local go_sem] max2_int min2_int max_two min_two max_three min_three max_four min_four

set_option maxHeartbeats 8000000 in
set_option maxRecDepth 100000 in
theorem walk (x b : Int) (w : World) (hx : (Lit.int .u64 x).wf = true) (hb : (Lit.int .u8 b).wf = true) :
    Calls Try.prog 3 #[.int .u64 x, .int .u8 b] w fun e w' => e = .returned (.bool true) ∧ Below w.heap.size w w' := by
  have HB := Aside0.mk (Below.refl w.heap.size w)
  obtain ⟨x0, x1⟩ := wf_u64 hx
  obtain ⟨b0, b1⟩ := wf_u8 hb
  clear hx hb
  obtain ⟨k, hk⟩ : ∃ j : Int, Go.bits .and .u8 b 63 = j := ⟨_, rfl⟩
  have hk0 : 0 ≤ k := by rw [← hk, u8_and63 b b0 (by omega)]; omega
  have hk1 : k ≤ 63 := by rw [← hk, u8_and63 b b0 (by omega)]; omega
  clear b0 b1
  have e7 : (7 : Nat) * (k.toNat / 7) ≤ k.toNat ∧ k.toNat < 7 * (k.toNat / 7) + 7 := by omega
  obtain ⟨p, hp⟩ : ∃ j : Int, (2 : Int) ^ k.toNat = j := ⟨_, rfl⟩
  have p0 : 1 ≤ p := by rw [← hp]; exact Int.pow_pos (by decide)
  have p1 : p ≤ 9223372036854775808 := by
    rw [← hp]
    have h : (2 : Nat) ^ k.toNat ≤ 2 ^ 63 := Nat.pow_le_pow_right (by decide) (by omega)
    have e : ((2 : Int) ^ k.toNat) = ((2 ^ k.toNat : Nat) : Int) := (Int.natCast_pow 2 k.toNat).symm
    rw [e]
    omega
  obtain ⟨m, hm⟩ : ∃ j : Int, Go.bits .and .u64 x (p - 1) = j := ⟨_, rfl⟩
  have em : m = x % p := by rw [← hm, ← hp]; exact u64_mask _ (by omega) x x0 (by omega)
  have m0 : 0 ≤ m := by rw [em]; exact Int.emod_nonneg _ (by omega)
  have m1 : m < p := by rw [em]; exact Int.emod_lt_of_pos _ (by omega)
  obtain ⟨y, hy⟩ : ∃ j : Int, Go.bits .or .u64 m p = j := ⟨_, rfl⟩
  have ey : y = p + m := by
    rw [← hy, bits_or_comm]
    exact u64_join k.toNat p m (by omega) (by rw [hp]; simp) (by omega) m0 (by rw [hp]; exact m1) (by omega)
  have hl : (((pv y.toNat).length : Int) == k / 7 + 1) = true := by
    have hpn : (2 ^ k.toNat : Nat) = p.toNat := by
      have : ((2 ^ k.toNat : Nat) : Int) = p := by rw [← hp]; simp
      omega
    have h1 : (128 : Nat) ^ (k.toNat / 7) ≤ y.toNat := by
      have : (128 : Nat) ^ (k.toNat / 7) ≤ 2 ^ k.toNat := by
        rw [show (128 : Nat) = 2 ^ 7 from rfl, ← Nat.pow_mul]
        exact Nat.pow_le_pow_right (by decide) e7.1
      omega
    have h2 : y.toNat < (128 : Nat) ^ (k.toNat / 7 + 1) := by
      have : (2 : Nat) ^ (k.toNat + 1) ≤ 128 ^ (k.toNat / 7 + 1) := by
        rw [show (128 : Nat) = 2 ^ 7 from rfl, ← Nat.pow_mul]
        exact Nat.pow_le_pow_right (by decide) (by omega)
      rw [Nat.pow_succ] at this
      omega
    rw [beq_iff_eq, pv_len (k.toNat / 7) _ h2 (.inr h1)]
    omega
  have hl0 : (((pv 0).length : Int) == 1) = true := by rw [pv_small (by decide)]; rfl
  have y0 : 0 ≤ y := by omega
  have y1 : y ≤ 18446744073709551615 := by omega
  have hw : IntKind.u64.wrap (2 ^ k.toNat) = p := by rw [hp]; exact wrap_u64_id (by omega) (by omega)
  clear hp em ey e7
  have HL := Aside0.mk hl
  have HL0 := Aside0.mk hl0
  clear hl hl0
  go_enter Try.func3, Try.ntmps3
  go_wp2_with (go_at_call 9; (with_reducible refine (shown _).mono ?_); rintro e w1 ⟨rfl, hb⟩; have n0 := Aside0.mk (below_step HB.out hb); clear HB hb; have HB := n0; clear n0)
  go_quiet (fail)
  go_wp2_with (fail)
  (with_reducible refine (putVar _ y0 y1 _).mono ?_); rintro e w2 ⟨v, rfl, ho, hb⟩
  have n0 := Aside0.mk (below_step (pw_below_drewN HB.out _) hb); clear HB hb; have HB := n0; clear n0
  obtain ⟨A, c, rfl⟩ := Kd.R_slice ho
  clear ho
  have hl := HL.out
  clear HL
  go_wp2_with (fail)
  (with_reducible refine (putVar _ (by decide) (by decide) _).mono ?_); rintro e w3 ⟨v, rfl, ho, hb⟩
  have n0 := Aside0.mk (below_step HB.out hb); clear HB hb; have HB := n0; clear n0
  obtain ⟨A, c, rfl⟩ := Kd.R_slice ho
  clear ho
  have hl0 := HL0.out
  clear HL0
  go_wp2_with (fail)
  go_ret
  exact ⟨rfl, HB.out⟩

end Go.Proofs.Ytjemdpbbdkfamaa.WNumShort
