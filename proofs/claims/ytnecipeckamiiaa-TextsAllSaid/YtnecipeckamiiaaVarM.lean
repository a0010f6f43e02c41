/-
  Plain mathematics of reading a number (Var): no program in sight.
-/
import Derived.Test.YtnecipeckamiiaaNum
import Derived.Test.YtnecipeckamiiaaWMore
import Derived.Lib.BitFns
namespace Go.Proofs.Ytnecipeckamiiaa.VarM
open Go.RowKit Go.Proofs.YtnecipeckamiiaaW.PrintWords Go.Proofs.YtnecipeckamiiaaW.PrintMore Go.Proofs.Ytnecipeckamiiaa.Bits Go.Proofs.Ytnecipeckamiiaa.Num

/-- What bytes begin with: read from place i on, acc being what was read ahead. -/
def vgo : List Int → Nat → Int → Int × Int
  | [], _, _ => (0, 0)
  | c :: cs, i, acc =>
    if 64 < 7 * i + Lib.bitLen (c % 128).toNat then (0, 0)
    else if c < 128 then (if c = 0 ∧ 0 < i then (0, 0) else (acc + c * 128 ^ i, ((i + 1 : Nat) : Int)))
    else vgo cs (i + 1) (acc + c % 128 * 128 ^ i)
/-- Var: the number that bytes begin with, and how many bytes it has. -/
def var (l : List Int) : Int × Int := vgo l 0 0
def Bytes (l : List Int) : Prop := ∀ c ∈ l, 0 ≤ c ∧ c < 256
theorem Bytes.tail {c : Int} {l : List Int} (h : Bytes (c :: l)) : Bytes l := fun d hd => h d (List.mem_cons_of_mem _ hd)
theorem Bytes.head {c : Int} {l : List Int} (h : Bytes (c :: l)) : 0 ≤ c ∧ c < 256 := h c List.mem_cons_self
theorem Bytes.drop {l : List Int} (h : Bytes l) (n : Nat) : Bytes (l.drop n) := fun c hc => h c (List.mem_of_mem_drop hc)
theorem Bytes.take {l : List Int} (h : Bytes l) (n : Nat) : Bytes (l.take n) := fun c hc => h c (List.mem_of_mem_take hc)
theorem Bytes.append {a b : List Int} (h : Bytes a) (k : Bytes b) : Bytes (a ++ b) := fun c hc => (List.mem_append.1 hc).elim (h c) (k c)
theorem pv_Bytes (x : Nat) : Bytes (pv x) := pv_bytes x

theorem bitLen_fin : ∀ p : Fin 128, (p : Nat) < 2 ^ Lib.bitLen p ∧ (1 ≤ (p : Nat) → 2 ^ Lib.bitLen p ≤ 2 * (p : Nat)) ∧ ((p : Nat) = 0 → Lib.bitLen p = 0) ∧ Lib.bitLen p ≤ 7 := by decide +kernel
theorem fit1 (p i : Nat) (hp : p < 128) (h : 7 * i + Lib.bitLen p ≤ 64) : p * 128 ^ i < 18446744073709551616 := by
  have h1 := (bitLen_fin ⟨p, hp⟩).1
  simp only at h1
  have h2 : p * 128 ^ i < 2 ^ Lib.bitLen p * 128 ^ i := Nat.mul_lt_mul_of_pos_right h1 (Nat.pow_pos (by decide))
  have h3 : 2 ^ Lib.bitLen p * 128 ^ i = 2 ^ (Lib.bitLen p + 7 * i) := by rw [show (128 : Nat) = 2 ^ 7 from rfl, ← Nat.pow_mul, ← Nat.pow_add]
  have h4 : 2 ^ (Lib.bitLen p + 7 * i) ≤ 2 ^ 64 := Nat.pow_le_pow_right (by decide) (by omega)
  omega
theorem fit2 (p i : Nat) (hp : p < 128) (h : 64 < 7 * i + Lib.bitLen p) (h1 : 1 ≤ p) : 18446744073709551616 ≤ p * 128 ^ i := by
  have h2 := (bitLen_fin ⟨p, hp⟩).2.1 h1
  simp only at h2
  have h3 : 2 ^ Lib.bitLen p * 128 ^ i ≤ 2 * p * 128 ^ i := Nat.mul_le_mul_right _ h2
  have h4 : 2 ^ Lib.bitLen p * 128 ^ i = 2 ^ (Lib.bitLen p + 7 * i) := by rw [show (128 : Nat) = 2 ^ 7 from rfl, ← Nat.pow_mul, ← Nat.pow_add]
  have h5 : 2 ^ 65 ≤ 2 ^ (Lib.bitLen p + 7 * i) := Nat.pow_le_pow_right (by decide) (by omega)
  rw [Nat.mul_assoc] at h3
  omega
theorem pow128 (i : Nat) (h : 10 ≤ i) : 18446744073709551616 ≤ 128 ^ i := by
  have : (128 : Nat) ^ 10 ≤ 128 ^ i := Nat.pow_le_pow_right (by decide) h
  omega
theorem bitLen0 : Lib.bitLen 0 = 0 := (bitLen_fin ⟨0, by decide⟩).2.2.1 rfl

theorem vgo_pv (z : Nat) : ∀ (cs : List Int) (i : Nat) (acc : Int), pv z <+: cs → z * 128 ^ i < 18446744073709551616 → (1 ≤ z ∨ i = 0) →
    vgo cs i acc = (acc + (z : Int) * 128 ^ i, ((i + (pv z).length : Nat) : Int)) := by
  induction z using pv.induct with
  | case1 z h =>
    intro cs i acc hp hz h0
    rw [pv_small h] at hp ⊢
    obtain ⟨r, rfl⟩ := hp
    have e : (((z : Int) % 128).toNat) = z := by omega
    simp only [List.cons_append, vgo, e]
    have hf : ¬ 64 < 7 * i + Lib.bitLen z := by
      intro hc
      rcases Nat.eq_zero_or_pos z with rfl | hz0
      · rw [bitLen0] at hc; omega
      · have := fit2 z i h hc hz0; omega
    rw [if_neg hf, if_pos (by omega), if_neg (by omega)]
    simp
  | case2 z h ih =>
    intro cs i acc hp hz h0
    rw [pv_big (by omega)] at hp ⊢
    obtain ⟨r, rfl⟩ := hp
    have e : ((((z % 128 + 128 : Nat) : Int) % 128).toNat) = z % 128 := by omega
    have hsplit : z * 128 ^ i = (z / 128) * 128 ^ (i + 1) + z % 128 * 128 ^ i := by
      have := Nat.div_add_mod z 128
      rw [Nat.pow_succ, show (z / 128) * (128 ^ i * 128) = (128 * (z / 128)) * 128 ^ i by ac_rfl, ← Nat.add_mul, this]
    simp only [List.cons_append, vgo, e]
    have hf : ¬ 64 < 7 * i + Lib.bitLen (z % 128) := by
      intro hc
      rcases Nat.eq_zero_or_pos (z % 128) with hz0 | hz0
      · rw [hz0, bitLen0] at hc
        have h1 := pow128 i (by omega)
        have h2 : 1 * 128 ^ i ≤ z * 128 ^ i := Nat.mul_le_mul_right _ (by omega)
        omega
      · have := fit2 _ i (by omega) hc hz0; omega
    rw [if_neg hf, if_neg (by omega), ih (pv (z / 128) ++ r) (i + 1) _ ⟨r, rfl⟩ (by omega) (.inl (by omega))]
    have e2 : (((z % 128 + 128 : Nat) : Int) % 128) = ((z % 128 : Nat) : Int) := by omega
    have hs : (z : Int) * 128 ^ i = ((z / 128 : Nat) : Int) * 128 ^ (i + 1) + ((z % 128 : Nat) : Int) * 128 ^ i := by exact_mod_cast hsplit
    rw [e2, hs]
    refine Prod.ext ?_ ?_
    · simp only; omega
    · simp only [List.length_cons]; omega

theorem vgo_cases (cs : List Int) : ∀ (i : Nat) (acc : Int), Bytes cs → vgo cs i acc = (0, 0) ∨ ∃ z : Nat, pv z <+: cs ∧ z * 128 ^ i < 18446744073709551616 ∧ (1 ≤ z ∨ i = 0) := by
  induction cs with
  | nil => intro i acc _; left; rfl
  | cons c cs ih =>
    intro i acc hb
    have hc := hb.head
    simp only [vgo]
    by_cases hf : 64 < 7 * i + Lib.bitLen (c % 128).toNat
    · rw [if_pos hf]; exact .inl rfl
    · rw [if_neg hf]
      have h1 := fit1 (c % 128).toNat i (by omega) (by omega)
      by_cases h2 : c < 128
      · rw [if_pos h2]
        by_cases h3 : c = 0 ∧ 0 < i
        · rw [if_pos h3]; exact .inl rfl
        · rw [if_neg h3]
          refine .inr ⟨c.toNat, ?_, ?_, by omega⟩
          · rw [pv_small (by omega)]
            exact ⟨cs, by simp; omega⟩
          · rw [show c.toNat = (c % 128).toNat by omega]; exact h1
      · rw [if_neg h2]
        rcases ih (i + 1) (acc + c % 128 * 128 ^ i) hb.tail with h | ⟨z, hz, hlt, h0⟩
        · exact .inl h
        · have hz1 : 1 ≤ z := by omega
          refine .inr ⟨z * 128 + (c % 128).toNat, ?_, ?_, by omega⟩
          · rw [pv_big (by omega)]
            have e1 : (z * 128 + (c % 128).toNat) / 128 = z := by omega
            have e2 : (z * 128 + (c % 128).toNat) % 128 = (c % 128).toNat := by omega
            rw [e1, e2]
            obtain ⟨r, rfl⟩ := hz
            exact ⟨r, by rw [List.cons_append]; congr 1; omega⟩
          · have hi : i + 1 ≤ 9 := by
              have : ¬ 10 ≤ i + 1 := fun hge => by
                have h4 := pow128 (i + 1) hge
                have h5 : 1 * 128 ^ (i + 1) ≤ z * 128 ^ (i + 1) := Nat.mul_le_mul_right _ hz1
                omega
              omega
            have hq : 128 ^ (i + 1) * 2 ^ (64 - 7 * (i + 1)) = 18446744073709551616 := by
              rw [show (128 : Nat) = 2 ^ 7 from rfl, ← Nat.pow_mul, ← Nat.pow_add, show 7 * (i + 1) + (64 - 7 * (i + 1)) = 64 by omega]
            have hzq : z < 2 ^ (64 - 7 * (i + 1)) := by
              rcases Nat.lt_or_ge z (2 ^ (64 - 7 * (i + 1))) with h | h
              · exact h
              · have := Nat.mul_le_mul_right (128 ^ (i + 1)) h
                rw [Nat.mul_comm (2 ^ _)] at this
                omega
            have h6 : (z + 1) * 128 ^ (i + 1) ≤ 2 ^ (64 - 7 * (i + 1)) * 128 ^ (i + 1) := Nat.mul_le_mul_right _ hzq
            rw [Nat.mul_comm (2 ^ _), hq] at h6
            have h7 : (z * 128 + (c % 128).toNat) * 128 ^ i < (z + 1) * 128 * 128 ^ i := Nat.mul_lt_mul_of_pos_right (by omega) (Nat.pow_pos (by decide))
            have h8 : (z + 1) * 128 * 128 ^ i = (z + 1) * 128 ^ (i + 1) := by rw [Nat.pow_succ, Nat.mul_assoc, Nat.mul_comm 128]
            omega

theorem var_pv {y : Nat} {l : List Int} (hy : y < 18446744073709551616) (h : pv y <+: l) : var l = ((y : Int), ((pv y).length : Int)) := by
  have := vgo_pv y l 0 0 h (by simpa using hy) (.inr rfl)
  simpa [var] using this
theorem var_cases {l : List Int} (hb : Bytes l) : (var l = (0, 0) ∧ ∀ y : Nat, y < 18446744073709551616 → ¬ pv y <+: l) ∨ ∃ y : Nat, y < 18446744073709551616 ∧ pv y <+: l ∧ var l = ((y : Int), ((pv y).length : Int)) := by
  by_cases h : ∃ y : Nat, y < 18446744073709551616 ∧ pv y <+: l
  · obtain ⟨y, hy, hp⟩ := h
    exact .inr ⟨y, hy, hp, var_pv hy hp⟩
  · refine .inl ⟨?_, fun y hy hp => h ⟨y, hy, hp⟩⟩
    rcases vgo_cases l 0 0 hb with h1 | ⟨z, hz, hlt, _⟩
    · exact h1
    · exact absurd ⟨z, by simpa using hlt, hz⟩ h
/-- What is told of any bytes: a number, and how many bytes it has. -/
theorem var_range {l : List Int} (hb : Bytes l) : 0 ≤ (var l).1 ∧ (var l).1 ≤ 18446744073709551615 ∧ 0 ≤ (var l).2 ∧ (var l).2 ≤ l.length ∧ (var l).2 ≤ 10 := by
  rcases var_cases hb with ⟨h, _⟩ | ⟨y, hy, hp, h⟩
  · rw [h]; simp
  · rw [h]
    have h1 := hp.length_le
    have h2 := pv_le10 y hy
    simp only
    omega

/-- 'x |= part << shift': the sum, where it fits. -/
theorem or_shl (acc p i : Nat) (hp : p < 128) (hacc : acc < 128 ^ i) (hfit : 7 * i + Lib.bitLen p ≤ 64) :
    Go.bits .or .u64 (acc : Int) (shl .u64 (p : Int) ((7 * i : Nat) : Int)) = ((acc + p * 128 ^ i : Nat) : Int) := by
  have hp64 := fit1 p i hp hfit
  have hpow : (128 : Nat) ^ i = 2 ^ (7 * i) := by rw [show (128 : Nat) = 2 ^ 7 from rfl, ← Nat.pow_mul]
  have hle64 : 7 * i ≤ 64 := by omega
  rw [hpow] at hacc hp64 ⊢
  have h2 : (2 : Nat) ^ (7 * i) ≤ 2 ^ 64 := Nat.pow_le_pow_right (by decide) hle64
  have hacc64 : acc < 18446744073709551616 := by omega
  have eshl : shl .u64 (p : Int) ((7 * i : Nat) : Int) = ((p * 2 ^ (7 * i) : Nat) : Int) := by
    unfold shl
    rw [Int.toNat_natCast, show min (7 * i) IntKind.u64.bits = 7 * i from Nat.min_eq_left hle64]
    have h1 : (p : Int) * 2 ^ (7 * i) = ((p * 2 ^ (7 * i) : Nat) : Int) := by simp
    rw [h1]
    exact wrap_u64_id (Int.natCast_nonneg _) (by omega)
  rw [eshl, bits_or_comm]
  generalize hq : p * 2 ^ (7 * i) = q at *
  rw [u64_join (7 * i) (q : Int) (acc : Int) (Int.natCast_nonneg _) ?_ (by omega) (Int.natCast_nonneg _) ?_ (by omega)]
  · rw [Int.natCast_add, Int.add_comm]
  · rw [← hq]
    have : ((p * 2 ^ (7 * i) : Nat) : Int) = (p : Int) * 2 ^ (7 * i) := by simp
    rw [this, Int.mul_emod_left]
  · have h3 : ((2 : Int) ^ (7 * i)) = ((2 ^ (7 * i) : Nat) : Int) := by simp
    rw [h3]
    exact Int.ofNat_lt.2 hacc
theorem next_lt (acc p i : Nat) (hp : p < 128) (hacc : acc < 128 ^ i) : acc + p * 128 ^ i < 128 ^ (i + 1) := by
  have h1 : p * 128 ^ i ≤ 127 * 128 ^ i := Nat.mul_le_mul_right _ (by omega)
  rw [Nat.pow_succ]
  omega

theorem part_eq (c : Int) (p : Nat) (h0 : 0 ≤ c) (h1 : c < 256) (hp : c % 128 = p) : IntKind.u64.wrap (Go.bits .andNot .u8 c 128) = (p : Int) := by
  rw [u8_andNot_high c h0 h1, hp]
  exact wrap_u64_id (by omega) (by omega)
theorem shift_add (i b : Nat) (hi : i ≤ 10) (hb : b ≤ 7) : wrap64 (((7 * i : Nat) : Int) + (b : Int)) = ((7 * i + b : Nat) : Int) := by
  rw [wrap64_id (by omega) (by omega)]; omega
theorem inc_eq (i : Nat) (hi : i < 1000000000000) : wrap64 ((i : Int) + 1) = ((i + 1 : Nat) : Int) := by
  rw [wrap64_id (by omega) (by omega)]; omega
theorem shift7_eq (i : Nat) (hi : i ≤ 10) : wrap64 (((7 * i : Nat) : Int) + 7) = ((7 * (i + 1) : Nat) : Int) := by
  rw [wrap64_id (by omega) (by omega)]; omega
theorem big_int {n : Nat} (h : 64 < n) : (n : Int) > 64 := by omega
theorem big_int' {n : Nat} (h : ¬ 64 < n) : ¬ (n : Int) > 64 := by omega

/-- What a printed loop of Var tells. -/
theorem var_loop {l0 : Nat → Int → Int → List Int → Int → Int → Option (Int × Int)} {j1 : Nat → Int → Int → Int → Int → Int → List Int → Int → Int → Bool → Option (Int × Int)} {lf : Nat → Int → Option Int}
    (hl : ∀ k x4 x5 x9 x10 x11, l0 (k + 1) x4 x5 x9 x10 x11 = if x11 < x10 then (if 0 ≤ x11 then (if x11 < (x9.length : Int) then ((lf k (IntKind.u64.wrap (Go.bits .andNot .u8 (rd x9 x11) 128))).bind fun t114 => (if (wrap64 (x5 + t114)) > 64 then (some (0, 0)) else (if (rd x9 x11) < 128 then (if (rd x9 x11) = 0 then (j1 k x4 x5 x11 (rd x9 x11) (IntKind.u64.wrap (Go.bits .andNot .u8 (rd x9 x11) 128)) x9 x10 x11 (decide (x11 > 0))) else (j1 k x4 x5 x11 (rd x9 x11) (IntKind.u64.wrap (Go.bits .andNot .u8 (rd x9 x11) 128)) x9 x10 x11 false)) else (j1 k x4 x5 x11 (rd x9 x11) (IntKind.u64.wrap (Go.bits .andNot .u8 (rd x9 x11) 128)) x9 x10 x11 false)))) else (none)) else (none)) else (some (0, 0)))
    (hj : ∀ k x4 x5 x6 x7 x8 x9 x10 x11 x25, j1 (k + 1) x4 x5 x6 x7 x8 x9 x10 x11 x25 = if x25 = true then (some (0, 0)) else (if 0 ≤ x5 then (if x7 < 128 then (some (Go.bits .or .u64 x4 (shl .u64 x8 x5), wrap64 (x6 + 1))) else (l0 k (Go.bits .or .u64 x4 (shl .u64 x8 x5)) (wrap64 (x5 + 7)) x9 x10 (wrap64 (x11 + 1)))) else (none)))
    (hf : ∀ (k : Nat) (p : Nat), p < 128 → lf k (p : Int) = some (Lib.bitLen p : Int))
    (l : List Int) (hb : Bytes l) (hn : l.length < 1000000000000) (d : Nat) :
    ∀ (k i : Nat) (acc : Nat), i + d = l.length → 2 * d < k → i ≤ 10 → acc < 128 ^ i →
      l0 k (acc : Int) ((7 * i : Nat) : Int) l (l.length : Int) (i : Int) = some (vgo (l.drop i) i acc) := by
  induction d with
  | zero =>
    intro k i acc hi hk _ _
    obtain ⟨k, rfl⟩ : ∃ m, k = m + 1 := ⟨k - 1, by omega⟩
    rw [hl, if_neg (by omega), List.drop_of_length_le (by omega)]; rfl
  | succ d ih =>
    intro k i acc hi hk hi10 hacc
    obtain ⟨k, rfl⟩ : ∃ m, k = m + 1 := ⟨k - 1, by omega⟩
    obtain ⟨k, rfl⟩ : ∃ m, k = m + 1 := ⟨k - 1, by omega⟩
    obtain ⟨c, hc⟩ : ∃ c, rd l (i : Int) = c := ⟨_, rfl⟩
    have hdrop : l.drop i = c :: l.drop (i + 1) := by
      rw [List.drop_eq_getElem_cons (by omega)]
      congr 1
      rw [← hc]
      simp [rd, List.getD, List.getElem?_eq_getElem (show i < l.length by omega)]
    have hcb : 0 ≤ c ∧ c < 256 := by
      have := hb.drop i
      rw [hdrop] at this
      exact this.head
    obtain ⟨p, hp⟩ : ∃ p : Nat, c % 128 = p := Int.eq_ofNat_of_zero_le (by omega)
    have hp128 : p < 128 := by omega
    have hbl : Lib.bitLen p ≤ 7 := (bitLen_fin ⟨p, hp128⟩).2.2.2
    have q1 : i + 1 + d = l.length := by omega
    have q2 : 2 * d < k := by omega
    have q3 : i < 1000000000000 := by omega
    have g1 : (i : Int) < (l.length : Int) := by omega
    have hi9 : ¬ 64 < 7 * i + Lib.bitLen p → i + 1 ≤ 10 := fun h => by omega
    have hcp : c < 128 → c = (p : Int) := fun h => by omega
    have e1 := part_eq c p hcb.1 hcb.2 hp
    have e2 := shift_add i (Lib.bitLen p) hi10 hbl
    have e3 := inc_eq i q3
    have e4 := shift7_eq i hi10
    have g0 : (0 : Int) ≤ (i : Int) := Int.natCast_nonneg _
    have g2 : (0 : Int) ≤ ((7 * i : Nat) : Int) := Int.natCast_nonneg _
    rw [hl, if_pos g1, if_pos g0, if_pos g1, hc, e1, hf (k + 1) p hp128, Option.bind_some, e2, hdrop, vgo, hp, Int.toNat_natCast]
    by_cases hfit : 64 < 7 * i + Lib.bitLen p
    · rw [if_pos (big_int hfit), if_pos hfit]
    · rw [if_neg (big_int' hfit), if_neg hfit]
      have eor := or_shl acc p i hp128 hacc (Nat.not_lt.1 hfit)
      have hnext := next_lt acc p i hp128 hacc
      have haccI : (acc : Int) + (p : Int) * 128 ^ i = ((acc + p * 128 ^ i : Nat) : Int) := by simp
      by_cases h1 : c < 128
      · have hcp := hcp h1
        rw [if_pos h1, if_pos h1]
        by_cases h2 : c = 0
        · rw [if_pos h2, hj]
          by_cases h3 : 0 < i
          · rw [if_pos (decide_eq_true (Int.natCast_pos.2 h3)), if_pos ⟨h2, h3⟩]
          · rw [if_neg (by rw [decide_eq_false (fun h => h3 (Int.natCast_pos.1 h))]; decide), if_neg (show ¬ (c = 0 ∧ 0 < i) from fun h => h3 h.2), if_pos g2, if_pos h1, eor, e3, ← haccI, hcp]
        · rw [if_neg h2, hj, if_neg Bool.false_ne_true, if_neg (show ¬ (c = 0 ∧ 0 < i) from fun h => h2 h.1), if_pos g2, if_pos h1, eor, e3, ← haccI, hcp]
      · rw [if_neg h1, if_neg h1, hj, if_neg Bool.false_ne_true, if_pos g2, if_neg h1, eor, e3, e4, haccI]
        exact ih k (i + 1) _ q1 q2 (hi9 hfit) hnext

end Go.Proofs.Ytnecipeckamiiaa.VarM
