/-
  Plain mathematics of the reference's ways to put numbers: what its printed loops tell. No program in sight.
-/
import Derived.Test.YtlhimfkhcdpciaaVarM
import Derived.Test.YtlhimfkhcdpciaaCGet64
namespace Go.Proofs.Ytlhimfkhcdpciaa.RefM
open Go.RowKit Go.Proofs.YtlhimfkhcdpciaaW.PrintWords Go.Proofs.YtlhimfkhcdpciaaW.PrintMore Go.Proofs.Ytlhimfkhcdpciaa.Bits Go.Proofs.Ytlhimfkhcdpciaa.Num Go.Proofs.Ytlhimfkhcdpciaa.VarM Go.Proofs.Ytlhimfkhcdpciaa.CGet64

theorem refput_loop {l0 : Nat → Int → List Int → Option (List Int)}
    (hl : ∀ k x acc, l0 (k + 1) x acc = if x ≥ 128 then (if acc.length < 140737488355328 then (l0 k (IntKind.u64.wrap (Int.tdiv x 128)) (acc ++ [((Int.tmod x 128) + 128) % 256])) else (none)) else (if acc.length < 140737488355328 then (some (acc ++ [(x) % 256])) else (none)))
    (d : Nat) : ∀ (x : Nat) (k : Nat) (acc : List Int), x < 128 ^ (d + 1) → x < 18446744073709551616 → d < k → acc.length + d < 140737488355328 → l0 k x acc = some (acc ++ pv x) := by
  induction d with
  | zero =>
    intro x k acc hx _ hk ha
    obtain ⟨k, rfl⟩ : ∃ m, k = m + 1 := ⟨k - 1, by omega⟩
    rw [hl, if_neg (by omega), if_pos (by omega), pv_small (by omega)]
    congr 3
    omega
  | succ d ih =>
    intro x k acc hx hx64 hk ha
    obtain ⟨k, rfl⟩ : ∃ m, k = m + 1 := ⟨k - 1, by omega⟩
    rw [hl]
    by_cases h : x < 128
    · rw [if_neg (by omega), if_pos (by omega), pv_small h]
      congr 3
      omega
    · rw [if_pos (by omega), if_pos (by omega), pv_big (by omega)]
      have e1 : IntKind.u64.wrap (Int.tdiv (x : Int) 128) = ((x / 128 : Nat) : Int) := by
        rw [Int.tdiv_eq_ediv_of_nonneg (by omega), wrap_u64_id (by omega) (by omega)]; omega
      have e2 : ((Int.tmod (x : Int) 128) + 128) % 256 = ((x % 128 + 128 : Nat) : Int) := by
        rw [Int.tmod_eq_emod_of_nonneg (by omega)]; omega
      rw [e1, e2, ih (x / 128) k _ (by rw [Nat.pow_succ] at hx; omega) (by omega) (by omega) (by simp; omega)]
      simp

theorem refput64_step {l0 : Nat → Int → List Int → Int → Option (List Int)}
    (hl : ∀ k x acc i, l0 (k + 1) x acc i = if i < 8 then (if acc.length < 140737488355328 then (l0 k (IntKind.u64.wrap (Int.tdiv x 256)) (acc ++ [(Int.tmod x 256) % 256]) (wrap64 (i + 1))) else (none)) else (some acc))
    (k : Nat) (x : Int) (acc : List Int) (i j : Int) (h0 : 0 ≤ x) (h1 : x ≤ 18446744073709551615) (hi : i < 8) (hi0 : 0 ≤ i) (hj : i + 1 = j) (ha : acc.length < 100) :
    l0 (k + 1) x acc i = l0 k (x / 256) (acc ++ [x % 256]) j := by
  rw [hl, if_pos hi, if_pos (by omega)]
  have e1 : IntKind.u64.wrap (Int.tdiv x 256) = x / 256 := by
    rw [Int.tdiv_eq_ediv_of_nonneg h0, wrap_u64_id (by omega) (by omega)]
  have e2 : (Int.tmod x 256) % 256 = x % 256 := by
    rw [Int.tmod_eq_emod_of_nonneg h0]; omega
  have e3 : wrap64 (i + 1) = j := by rw [wrap64_id (by omega) (by omega)]; exact hj
  rw [e1, e2, e3]
theorem refput64 {l0 : Nat → Int → List Int → Int → Option (List Int)}
    (hl : ∀ k x acc i, l0 (k + 1) x acc i = if i < 8 then (if acc.length < 140737488355328 then (l0 k (IntKind.u64.wrap (Int.tdiv x 256)) (acc ++ [(Int.tmod x 256) % 256]) (wrap64 (i + 1))) else (none)) else (some acc))
    (x : Int) (h0 : 0 ≤ x) (h1 : x ≤ 18446744073709551615) : l0 9 x [] 0 = some (cl x) := by
  rw [refput64_step hl 8 x _ 0 1 h0 h1 (by omega) (by omega) rfl (by simp), refput64_step hl 7 _ _ 1 2 (by omega) (by omega) (by omega) (by omega) rfl (by simp), refput64_step hl 6 _ _ 2 3 (by omega) (by omega) (by omega) (by omega) rfl (by simp),
    refput64_step hl 5 _ _ 3 4 (by omega) (by omega) (by omega) (by omega) rfl (by simp), refput64_step hl 4 _ _ 4 5 (by omega) (by omega) (by omega) (by omega) rfl (by simp), refput64_step hl 3 _ _ 5 6 (by omega) (by omega) (by omega) (by omega) rfl (by simp),
    refput64_step hl 2 _ _ 6 7 (by omega) (by omega) (by omega) (by omega) rfl (by simp), refput64_step hl 1 _ _ 7 8 (by omega) (by omega) (by omega) (by omega) rfl (by simp), hl, if_neg (by omega)]
  have e2 : x / 256 / 256 = x / 65536 := by omega
  have e3 : x / 65536 / 256 = x / 16777216 := by omega
  have e4 : x / 16777216 / 256 = x / 4294967296 := by omega
  have e5 : x / 4294967296 / 256 = x / 1099511627776 := by omega
  have e6 : x / 1099511627776 / 256 = x / 281474976710656 := by omega
  have e7 : x / 281474976710656 / 256 = x / 72057594037927936 := by omega
  have e8 : x / 72057594037927936 % 256 = x / 72057594037927936 := by omega
  rw [e2, e3, e4, e5, e6, e7, e8]
  rfl

theorem refget64_step {l0 : Nat → List Int → Int → Int → Option (Int × Bool)}
    (hl : ∀ k l a i, l0 (k + 1) l a i = if i ≥ 0 then (if 0 ≤ i then (if i < (l.length : Int) then (l0 k l (IntKind.u64.wrap ((IntKind.u64.wrap (a * 256)) + (IntKind.u64.wrap (rd l i)))) (wrap64 (i - 1))) else (none)) else (none)) else (some (a, true)))
    (k : Nat) (l : List Int) (a : Int) (n : Nat) (j : Int) (hb : 0 ≤ l.getD n 0 ∧ l.getD n 0 ≤ 255) (hn : n < l.length) (hn8 : n < 8) (ha0 : 0 ≤ a) (ha : a * 256 + 255 ≤ 18446744073709551615) (hj : (n : Int) - 1 = j) :
    l0 (k + 1) l a n = l0 k l (a * 256 + l.getD n 0) j := by
  have er : rd l (n : Int) = l.getD n 0 := rfl
  rw [hl, if_pos (by omega), if_pos (by omega), if_pos (by omega), er]
  generalize l.getD n 0 = c at *
  rw [wrap_u64_id (n := a * 256) (by omega) (by omega), wrap_u64_id (n := c) (by omega) (by omega), wrap_u64_id (by omega) (by omega), wrap64_id (by omega) (by omega), hj]
theorem refget64 {l0 : Nat → List Int → Int → Int → Option (Int × Bool)}
    (hl : ∀ k l a i, l0 (k + 1) l a i = if i ≥ 0 then (if 0 ≤ i then (if i < (l.length : Int) then (l0 k l (IntKind.u64.wrap ((IntKind.u64.wrap (a * 256)) + (IntKind.u64.wrap (rd l i)))) (wrap64 (i - 1))) else (none)) else (none)) else (some (a, true)))
    (l : List Int) (hb : Bytes l) (h8 : ¬ l.length < 8) : l0 9 l 0 7 = some (v8 l 8, true) := by
  have hc : ∀ n, n < 8 → 0 ≤ l.getD n 0 ∧ l.getD n 0 ≤ 255 := fun n hn => by
    have := hb (l.getD n 0) (by simp [List.getD, List.getElem?_eq_getElem (show n < l.length by omega)])
    omega
  have c0 := hc 0 (by omega)
  have c1 := hc 1 (by omega)
  have c2 := hc 2 (by omega)
  have c3 := hc 3 (by omega)
  have c4 := hc 4 (by omega)
  have c5 := hc 5 (by omega)
  have c6 := hc 6 (by omega)
  have c7 := hc 7 (by omega)
  rw [show (7 : Int) = ((7 : Nat) : Int) from rfl, refget64_step hl 8 l 0 7 6 c7 (by omega) (by omega) (by omega) (by omega) (by omega),
    show (6 : Int) = ((6 : Nat) : Int) from rfl, refget64_step hl 7 l _ 6 5 c6 (by omega) (by omega) (by omega) (by omega) (by omega),
    show (5 : Int) = ((5 : Nat) : Int) from rfl, refget64_step hl 6 l _ 5 4 c5 (by omega) (by omega) (by omega) (by omega) (by omega),
    show (4 : Int) = ((4 : Nat) : Int) from rfl, refget64_step hl 5 l _ 4 3 c4 (by omega) (by omega) (by omega) (by omega) (by omega),
    show (3 : Int) = ((3 : Nat) : Int) from rfl, refget64_step hl 4 l _ 3 2 c3 (by omega) (by omega) (by omega) (by omega) (by omega),
    show (2 : Int) = ((2 : Nat) : Int) from rfl, refget64_step hl 3 l _ 2 1 c2 (by omega) (by omega) (by omega) (by omega) (by omega),
    show (1 : Int) = ((1 : Nat) : Int) from rfl, refget64_step hl 2 l _ 1 0 c1 (by omega) (by omega) (by omega) (by omega) (by omega)]
  refine (refget64_step hl 1 l _ 0 (-1) c0 (by omega) (by omega) (by omega) (by omega) (by omega)).trans ?_
  rw [hl, if_neg (by omega)]
  congr 2
  simp only [v8]
  generalize l.getD 0 0 = d0 at *
  generalize l.getD 1 0 = d1 at *
  generalize l.getD 2 0 = d2 at *
  generalize l.getD 3 0 = d3 at *
  generalize l.getD 4 0 = d4 at *
  generalize l.getD 5 0 = d5 at *
  generalize l.getD 6 0 = d6 at *
  generalize l.getD 7 0 = d7 at *
  simp only [Nat.mul_zero, Int.pow_zero, Nat.reduceMul, Int.reducePow]
  omega

theorem refzig (a : Int) (h0 : -9223372036854775808 ≤ a) (h1 : a ≤ 9223372036854775807) :
    (if a < 0 then (some (IntKind.u64.wrap ((IntKind.u64.wrap (2 * (IntKind.u64.wrap (wrap64 (-(wrap64 (a + 1))))))) + 1))) else (some (IntKind.u64.wrap (2 * (IntKind.u64.wrap (a)))))) = some (zig a) := by
  unfold zig
  by_cases h : a < 0
  · rw [if_pos h, if_neg (by omega), wrap64_id (n := a + 1) (by omega) (by omega), wrap64_id (n := -(a + 1)) (by omega) (by omega), wrap_u64_id (n := -(a + 1)) (by omega) (by omega), wrap_u64_id (n := 2 * -(a + 1)) (by omega) (by omega), wrap_u64_id (by omega) (by omega)]
    congr 1; omega
  · rw [if_neg h, if_pos (by omega), wrap_u64_id (n := a) (by omega) (by omega), wrap_u64_id (by omega) (by omega)]
theorem refzag (u : Int) (h0 : 0 ≤ u) (h1 : u ≤ 18446744073709551615) :
    (if (Int.tmod u 2) = 1 then (some (wrap64 ((wrap64 (-(wrap64 (IntKind.u64.wrap (Int.tdiv u 2))))) - 1))) else (some (wrap64 (IntKind.u64.wrap (Int.tdiv u 2))))) = some (zag u) := by
  unfold zag
  rw [Int.tmod_eq_emod_of_nonneg h0, Int.tdiv_eq_ediv_of_nonneg h0, wrap_u64_id (n := u / 2) (by omega) (by omega), wrap64_id (n := u / 2) (by omega) (by omega)]
  by_cases h : u % 2 = 1
  · rw [if_pos h, if_neg (by omega), wrap64_id (n := -(u / 2)) (by omega) (by omega), wrap64_id (by omega) (by omega)]
  · rw [if_neg h, if_pos (by omega)]

end Go.Proofs.Ytlhimfkhcdpciaa.RefM
