/-
  Plain mathematics of columns of numbers (Fixed, Delta, Put): no program in sight.
-/
import Derived.Test.YtlhimfkhcdpciaaNum
import Derived.Test.YtlhimfkhcdpciaaWMore
namespace Go.Proofs.Ytlhimfkhcdpciaa.Ints
open Go.RowKit Go.Proofs.YtlhimfkhcdpciaaW.PrintWords Go.Proofs.YtlhimfkhcdpciaaW.PrintMore Go.Proofs.Ytlhimfkhcdpciaa.Bits Go.Proofs.Ytlhimfkhcdpciaa.Num

/-- A whole number of 64 bits with a sign. -/
def I64 (x : Int) : Prop := -9223372036854775808 ≤ x ∧ x ≤ 9223372036854775807
def dl (last : Int) : List Int → List Int
  | [] => []
  | x :: xs => pv (zig (wrap64 (x - last))).toNat ++ dl x xs
def le8 (x : Int) : List Int := (List.range 8).map fun i => x / 2 ^ (8 * i) % 256
def fx (l : List Int) : List Int := l.flatMap fun x => le8 (IntKind.u64.wrap x)
def fxAt (l : List Int) (i : Nat) : Int := IntKind.u64.wrap (l.getD (i / 8) 0) / 2 ^ (8 * (i % 8)) % 256

theorem wrap64_i64 (n : Int) : I64 (wrap64 n) := by unfold I64 wrap64; omega
theorem le8_length (x : Int) : (le8 x).length = 8 := by simp [le8]
theorem fx_length (l : List Int) : (fx l).length = 8 * l.length := by
  induction l with
  | nil => rfl
  | cons x xs ih =>
    unfold fx at ih ⊢
    rw [List.flatMap_cons, List.length_append, ih, le8_length, List.length_cons]
    omega
theorem fx_append (a b : List Int) : fx (a ++ b) = fx a ++ fx b := by simp [fx]
theorem fx_at (l : List Int) : (List.range (8 * l.length)).map (fxAt l) = fx l := by
  induction l with
  | nil => rfl
  | cons x xs ih =>
    have e : 8 * (x :: xs).length = 8 + 8 * xs.length := by rw [List.length_cons]; omega
    rw [e, List.range_add, List.map_append, List.map_map]
    have h1 : (List.range 8).map (fxAt (x :: xs)) = le8 (IntKind.u64.wrap x) := by
      unfold le8
      refine List.map_congr_left fun i hi => ?_
      have hi8 : i < 8 := by simpa using hi
      have e1 : i / 8 = 0 := by omega
      have e2 : i % 8 = i := by omega
      unfold fxAt
      rw [e1, e2]; rfl
    have h2 : (List.range (8 * xs.length)).map (fxAt (x :: xs) ∘ (8 + ·)) = (List.range (8 * xs.length)).map (fxAt xs) := by
      refine List.map_congr_left fun i _ => ?_
      have e1 : (8 + i) / 8 = i / 8 + 1 := by omega
      have e2 : (8 + i) % 8 = i % 8 := by omega
      show fxAt (x :: xs) (8 + i) = _
      unfold fxAt
      rw [e1, e2, List.getD_cons_succ]
    rw [h1, h2, ih]
    simp [fx]
theorem dl_length_le (l : List Int) : ∀ last, (dl last l).length ≤ 10 * l.length := by
  induction l with
  | nil => intro last; simp [dl]
  | cons x xs ih =>
    intro last
    have hz := zig_range (wrap64 (x - last)) (wrap64_i64 _).1 (wrap64_i64 _).2
    have h1 := pv_le10 (zig (wrap64 (x - last))).toNat (by omega)
    have h2 := ih x
    simp only [dl, List.length_append, List.length_cons]
    omega
theorem dl_append (a b : List Int) : ∀ last, dl last (a ++ b) = dl last a ++ dl (a.getLastD last) b := by
  induction a with
  | nil => intro last; rfl
  | cons x xs ih =>
    intro last
    simp only [List.cons_append, dl, ih, List.append_assoc]
    congr 3
    cases xs <;> rfl
theorem drop_at (l : List Int) (i : Nat) (h : i < l.length) : l.drop i = l.getD i 0 :: l.drop (i + 1) := by
  rw [List.drop_eq_getElem_cons h]
  congr 1
  simp [List.getD, List.getElem?_eq_getElem h]
theorem getD_mem (l : List Int) (i : Nat) (h : i < l.length) : l.getD i 0 ∈ l := by
  have e : l.getD i 0 = l[i] := by simp [List.getD, List.getElem?_eq_getElem h]
  rw [e]; exact List.getElem_mem h

/-- What a printed loop of Delta tells. -/
theorem delta_loop {l0 : Nat → List Int → Int → List Int → Int → Int → Option (List Int)} {zf : Int → Option Int} {pf : Nat → Int → Option (List Int)}
    (hl : ∀ k x3 x4 x7 x8 x9, l0 (k + 1) x3 x4 x7 x8 x9 = if x9 < x8 then (if 0 ≤ x9 then (if x9 < (x7.length : Int) then ((zf (wrap64 ((rd x7 x9) - x4))).bind fun t108 => ((pf k t108).bind fun t109 => (if x3.length + t109.length < 140737488355328 then (l0 k (x3 ++ t109) (rd x7 x9) x7 x8 (wrap64 (x9 + 1))) else (none)))) else (none)) else (none)) else (some x3))
    (hz : ∀ n, -9223372036854775808 ≤ n → n ≤ 9223372036854775807 → zf n = some (zig n))
    (hp : ∀ (x k : Nat), x < 18446744073709551616 → 10 ≤ k → pf k x = some (pv x))
    (l : List Int) (hn : l.length < 1000000000) (d : Nat) :
    ∀ (k i : Nat) (last : Int) (acc : List Int), i + d = l.length → d + 10 < k → acc.length + 10 * d < 140737488355328 →
      l0 k acc last l (l.length : Int) (i : Int) = some (acc ++ dl last (l.drop i)) := by
  induction d with
  | zero =>
    intro k i last acc hi hk ha
    obtain ⟨k, rfl⟩ : ∃ m, k = m + 1 := ⟨k - 1, by omega⟩
    rw [hl, if_neg (by omega), List.drop_of_length_le (by omega)]
    simp [dl]
  | succ d ih =>
    intro k i last acc hi hk ha
    obtain ⟨k, rfl⟩ : ∃ m, k = m + 1 := ⟨k - 1, by omega⟩
    have hw := wrap64_i64 (rd l i - last)
    have hzr := zig_range _ hw.1 hw.2
    obtain ⟨z, hzz⟩ : ∃ z : Nat, zig (wrap64 (rd l i - last)) = z := Int.eq_ofNat_of_zero_le hzr.1
    have h10 := pv_le10 z (by omega)
    rw [hl, if_pos (by omega), if_pos (by omega), if_pos (by omega), hz _ hw.1 hw.2, Option.bind_some, hzz, hp z k (by omega) (by omega), Option.bind_some, if_pos (by omega)]
    have e : wrap64 ((i : Int) + 1) = ((i + 1 : Nat) : Int) := by rw [wrap64_id (by omega) (by omega)]; rfl
    rw [e, ih k (i + 1) _ _ (by omega) (by omega) (by rw [List.length_append]; omega), drop_at l i (by omega)]
    have er : rd l (i : Int) = l.getD i 0 := rfl
    simp only [dl, List.append_assoc]
    rw [← er, hzz]
    rfl

/-- What a printed loop of Fixed tells. -/
theorem fixed_loop {l0 : Nat → List Int → List Int → Int → Int → Option (List Int)}
    (hl : ∀ k x0 x3 x10 x11, l0 (k + 1) x0 x3 x10 x11 = if x11 < x10 then (if 0 ≤ (wrap64 (Int.tdiv x11 8)) then (if (wrap64 (Int.tdiv x11 8)) < (x0.length : Int) then (if 0 ≤ (wrap64 (8 * (Int.tmod x11 8))) then (if 0 ≤ x11 then (if x11 < (x3.length : Int) then (l0 k x0 (x3.set (x11 : Int).toNat ((shr .u64 (IntKind.u64.wrap (rd x0 (wrap64 (Int.tdiv x11 8)))) (wrap64 (8 * (Int.tmod x11 8)))) % 256)) x10 (wrap64 (x11 + 1))) else (none)) else (none)) else (none)) else (none)) else (none)) else (some x3))
    (l : List Int) (hn : l.length < 1000000000) (d : Nat) :
    ∀ (k i : Nat) (x3 : List Int), i + d = 8 * l.length → d < k → x3 = (List.range i).map (fxAt l) ++ List.replicate d 0 →
      l0 k l x3 ((8 * l.length : Nat) : Int) (i : Int) = some ((List.range (8 * l.length)).map (fxAt l)) := by
  induction d with
  | zero =>
    intro k i x3 hi hk hx
    obtain ⟨k, rfl⟩ : ∃ m, k = m + 1 := ⟨k - 1, by omega⟩
    rw [hl, if_neg (by omega), hx]
    rw [show i = 8 * l.length from by omega]
    simp
  | succ d ih =>
    intro k i x3 hi hk hx
    obtain ⟨k, rfl⟩ : ∃ m, k = m + 1 := ⟨k - 1, by omega⟩
    have e1 : wrap64 (Int.tdiv (i : Int) 8) = ((i / 8 : Nat) : Int) := by
      rw [Int.tdiv_eq_ediv_of_nonneg (by omega), wrap64_id (by omega) (by omega)]; omega
    have e2 : wrap64 (8 * (Int.tmod (i : Int) 8)) = ((8 * (i % 8) : Nat) : Int) := by
      rw [Int.tmod_eq_emod_of_nonneg (by omega), wrap64_id (by omega) (by omega)]; omega
    have e3 : wrap64 ((i : Int) + 1) = ((i + 1 : Nat) : Int) := by rw [wrap64_id (by omega) (by omega)]; rfl
    have hlen : x3.length = 8 * l.length := by rw [hx]; simp; omega
    rw [hl, if_pos (by omega), e1, if_pos (by omega), if_pos (by omega), e2, if_pos (by omega), if_pos (by omega), if_pos (by omega), e3]
    refine ih k (i + 1) _ (by omega) (by omega) ?_
    have e4 : (shr .u64 (IntKind.u64.wrap (rd l ((i / 8 : Nat) : Int))) ((8 * (i % 8) : Nat) : Int)) % 256 = fxAt l i := by
      unfold shr fxAt rd
      have h8 : i % 8 < 8 := by omega
      rw [Int.toNat_natCast, Int.toNat_natCast, Nat.min_eq_left (by show 8 * (i % 8) ≤ 64; omega)]
    rw [e4, hx, Int.toNat_natCast, List.range_succ, List.map_append, List.replicate_succ]
    have hlr : ((List.range i).map (fxAt l)).length = i := by simp
    rw [List.set_append_right i (fxAt l i) (by omega), hlr, Nat.sub_self]
    simp

/-- Put. -/
def put (l : List Int) : List Int :=
  if 8 * l.length ≤ (dl 0 l).length then pv l.length ++ 0 :: fx l else pv l.length ++ 1 :: dl 0 l

end Go.Proofs.Ytlhimfkhcdpciaa.Ints
