/-
  Plain mathematics of reading columns of numbers (Take): no program in sight.
-/
import Derived.Test.YtlhimfkhcdpciaaInts
import Derived.Test.YtlhimfkhcdpciaaVarM
import Derived.Test.YtlhimfkhcdpciaaCGet64
namespace Go.Proofs.Ytlhimfkhcdpciaa.IntsT
open Go.RowKit Go.Proofs.YtlhimfkhcdpciaaW.PrintWords Go.Proofs.YtlhimfkhcdpciaaW.PrintMore Go.Proofs.Ytlhimfkhcdpciaa.Bits Go.Proofs.Ytlhimfkhcdpciaa.Num Go.Proofs.Ytlhimfkhcdpciaa.VarM Go.Proofs.Ytlhimfkhcdpciaa.CGet64 Go.Proofs.Ytlhimfkhcdpciaa.Ints
set_option linter.unusedVariables false

/-- So many numbers of eight bytes, and what is behind them. -/
def wideR : List Int → Nat → Option (List Int × List Int)
  | l, 0 => some ([], l)
  | l, n + 1 => if l.length < 8 then none else (wideR (l.drop 8) n).map fun p => (wrap64 (v8 l 8) :: p.1, p.2)
/-- So many numbers by steps, and what is behind them. -/
def stepsR : List Int → Nat → Int → Option (List Int × List Int)
  | l, 0, _ => some ([], l)
  | l, n + 1, last => if (var l).2 = 0 then none else (stepsR (l.drop (var l).2.toNat) n (wrap64 (last + zag (var l).1))).map fun p => (wrap64 (last + zag (var l).1) :: p.1, p.2)
theorem wideR_zero (l : List Int) : wideR l 0 = some ([], l) := by rw [wideR]
theorem stepsR_zero (l : List Int) (last : Int) : stepsR l 0 last = some ([], l) := by rw [stepsR]
/-- Take. -/
def takeL (b : List Int) : Option (List Int) :=
  if b.getD (var b).2.toNat 0 = 1 then (stepsR (b.drop ((var b).2.toNat + 1)) (var b).1.toNat 0).map Prod.fst else (wideR (b.drop ((var b).2.toNat + 1)) (var b).1.toNat).map Prod.fst
def takeM (b : List Int) : Option (List Int) :=
  if (var b).2 = 0 ∨ (var b).1 > 2000 ∨ (var b).2 ≥ b.length then none
  else (takeL b).bind fun l => if put l = b then some l else none

theorem wideR_length (n : Nat) : ∀ (l : List Int) (p), wideR l n = some p → p.1.length = n := by
  induction n with
  | zero => intro l p h; rw [wideR] at h; obtain rfl := Option.some.inj h; rfl
  | succ n ih =>
    intro l p h
    rw [wideR] at h
    split at h
    · cases h
    · obtain ⟨q, hq, rfl⟩ := Option.map_eq_some_iff.1 h
      simp [ih _ _ hq]
theorem stepsR_length (n : Nat) : ∀ (l : List Int) (last : Int) (p), stepsR l n last = some p → p.1.length = n := by
  induction n with
  | zero => intro l last p h; rw [stepsR] at h; obtain rfl := Option.some.inj h; rfl
  | succ n ih =>
    intro l last p h
    rw [stepsR] at h
    split at h
    · cases h
    · obtain ⟨q, hq, rfl⟩ := Option.map_eq_some_iff.1 h
      simp [ih _ _ _ hq]
theorem wideR_i64 (n : Nat) : ∀ (l : List Int) (p), wideR l n = some p → ∀ x ∈ p.1, I64 x := by
  induction n with
  | zero => intro l p h; rw [wideR] at h; obtain rfl := Option.some.inj h; simp
  | succ n ih =>
    intro l p h x hx
    rw [wideR] at h
    split at h
    · cases h
    · obtain ⟨q, hq, rfl⟩ := Option.map_eq_some_iff.1 h
      rcases List.mem_cons.1 hx with rfl | hx
      · exact wrap64_i64 _
      · exact ih _ _ hq x hx
theorem stepsR_i64 (n : Nat) : ∀ (l : List Int) (last : Int) (p), stepsR l n last = some p → ∀ x ∈ p.1, I64 x := by
  induction n with
  | zero => intro l last p h; rw [stepsR] at h; obtain rfl := Option.some.inj h; simp
  | succ n ih =>
    intro l last p h x hx
    rw [stepsR] at h
    split at h
    · cases h
    · obtain ⟨q, hq, rfl⟩ := Option.map_eq_some_iff.1 h
      rcases List.mem_cons.1 hx with rfl | hx
      · exact wrap64_i64 _
      · exact ih _ _ _ hq x hx
theorem takeL_length {b l : List Int} (h : takeL b = some l) : l.length = (var b).1.toNat := by
  unfold takeL at h
  split at h
  · obtain ⟨p, hp, rfl⟩ := Option.map_eq_some_iff.1 h
    exact stepsR_length _ _ _ _ hp
  · obtain ⟨p, hp, rfl⟩ := Option.map_eq_some_iff.1 h
    exact wideR_length _ _ _ hp
theorem takeL_i64 {b l : List Int} (h : takeL b = some l) : ∀ x ∈ l, I64 x := by
  unfold takeL at h
  split at h
  · obtain ⟨p, hp, rfl⟩ := Option.map_eq_some_iff.1 h
    exact stepsR_i64 _ _ _ _ hp
  · obtain ⟨p, hp, rfl⟩ := Option.map_eq_some_iff.1 h
    exact wideR_i64 _ _ _ hp
theorem takeM_some {b l : List Int} (h : takeM b = some l) : put l = b ∧ l.length ≤ 2000 ∧ takeL b = some l := by
  unfold takeM at h
  split at h
  · cases h
  · rename_i hg
    obtain ⟨l', hl, h⟩ := Option.bind_eq_some_iff.1 h
    split at h
    · obtain rfl := Option.some.inj h
      exact ⟨‹_›, by rw [takeL_length hl]; omega, hl⟩
    · cases h

/-! ### What was put is read -/
theorem le8_bytes (x : Int) (h0 : 0 ≤ x) (h1 : x ≤ 18446744073709551615) : Bytes (le8 x) := by
  intro c hc
  obtain ⟨i, _, rfl⟩ := List.mem_map.1 hc
  omega
theorem le8_cl (x : Int) (h0 : 0 ≤ x) (h1 : x ≤ 18446744073709551615) : le8 x = cl x := by
  have e : le8 x = [x / 2 ^ (8 * 0) % 256, x / 2 ^ (8 * 1) % 256, x / 2 ^ (8 * 2) % 256, x / 2 ^ (8 * 3) % 256, x / 2 ^ (8 * 4) % 256, x / 2 ^ (8 * 5) % 256, x / 2 ^ (8 * 6) % 256, x / 2 ^ (8 * 7) % 256] := rfl
  rw [e, cl]
  simp only [Nat.mul_zero, Int.pow_zero, Nat.reduceMul, Int.reducePow, Int.ediv_one]
  have h : x / 72057594037927936 % 256 = x / 72057594037927936 := by omega
  rw [h]
theorem fx_Bytes (l : List Int) : Bytes (fx l) := by
  intro c hc
  obtain ⟨x, _, hx⟩ := List.mem_flatMap.1 hc
  have : 0 ≤ IntKind.u64.wrap x ∧ IntKind.u64.wrap x ≤ 18446744073709551615 := by rw [wrap_u64]; omega
  exact le8_bytes _ this.1 this.2 c hx
theorem dl_Bytes (l : List Int) : ∀ last, Bytes (dl last l) := by
  induction l with
  | nil => intro last c hc; simp [dl] at hc
  | cons x xs ih => intro last; exact (pv_Bytes _).append (ih x)
theorem put_Bytes (l : List Int) : Bytes (put l) := by
  unfold put
  split
  · exact (pv_Bytes _).append (fun c hc => by rcases List.mem_cons.1 hc with rfl | h; (· omega); exact fx_Bytes l c h)
  · exact (pv_Bytes _).append (fun c hc => by rcases List.mem_cons.1 hc with rfl | h; (· omega); exact dl_Bytes l 0 c h)
theorem v8_le8 (x : Int) (r : List Int) (h0 : 0 ≤ x) (h1 : x ≤ 18446744073709551615) : v8 (le8 x ++ r) 8 = x := by
  rw [le8_cl x h0 h1]
  have e : v8 (cl x ++ r) 8 = x % 256 + x / 256 % 256 * 256 + x / 65536 % 256 * 65536 + x / 16777216 % 256 * 16777216 + x / 4294967296 % 256 * 4294967296 + x / 1099511627776 % 256 * 1099511627776 + x / 281474976710656 % 256 * 281474976710656 + x / 72057594037927936 * 72057594037927936 := by
    simp [v8, cl, List.getD]
  rw [e]
  omega
theorem wideR_fx (l : List Int) : ∀ r, (∀ x ∈ l, I64 x) → wideR (fx l ++ r) l.length = some (l, r) := by
  induction l with
  | nil => intro r _; rw [show ([] : List Int).length = 0 from rfl, wideR]; rfl
  | cons x xs ih =>
    intro r h
    have hx := h x (by simp)
    have hu : 0 ≤ IntKind.u64.wrap x ∧ IntKind.u64.wrap x ≤ 18446744073709551615 := by rw [wrap_u64]; omega
    have e : fx (x :: xs) ++ r = le8 (IntKind.u64.wrap x) ++ (fx xs ++ r) := by simp [fx]
    have e2 : (le8 (IntKind.u64.wrap x) ++ (fx xs ++ r)).drop 8 = fx xs ++ r := List.drop_left' (le8_length _)
    have e3 : wrap64 (IntKind.u64.wrap x) = x := by unfold I64 at hx; rw [wrap_u64]; unfold wrap64; omega
    rw [e, List.length_cons, wideR, if_neg (by rw [List.length_append, le8_length]; omega), e2, ih r (fun y hy => h y (by simp [hy])), v8_le8 _ _ hu.1 hu.2, e3]
    rfl
theorem stepsR_dl (l : List Int) : ∀ (r : List Int) (last : Int), I64 last → (∀ x ∈ l, I64 x) → stepsR (dl last l ++ r) l.length last = some (l, r) := by
  induction l with
  | nil => intro r last _ _; rw [show ([] : List Int).length = 0 from rfl, stepsR]; rfl
  | cons x xs ih =>
    intro r last hlast h
    have hx := h x (by simp)
    have hz := zig_range _ (wrap64_i64 (x - last)).1 (wrap64_i64 (x - last)).2
    have e : dl last (x :: xs) ++ r = pv (zig (wrap64 (x - last))).toNat ++ (dl x xs ++ r) := by simp [dl]
    have hv : var (pv (zig (wrap64 (x - last))).toNat ++ (dl x xs ++ r)) = (zig (wrap64 (x - last)), ((pv (zig (wrap64 (x - last))).toNat).length : Int)) := by
      rw [var_pv (by omega) ⟨_, rfl⟩, Int.toNat_of_nonneg hz.1]
    have hp := pv_pos (zig (wrap64 (x - last))).toNat
    have e3 : wrap64 (last + zag (zig (wrap64 (x - last)))) = x := by
      rw [zag_zig]
      unfold I64 at hx hlast
      unfold wrap64
      omega
    rw [e, List.length_cons, stepsR, hv]
    simp only
    rw [if_neg (by omega), e3, Int.toNat_natCast, List.drop_left' rfl, ih r x hx (fun y hy => h y (by simp [hy]))]
    rfl
/-- The head of what was put. -/
theorem put_head (l r : List Int) (hn : l.length ≤ 2000) : ∃ way rest, put l ++ r = pv l.length ++ way :: (rest ++ r) ∧ ((way = 1 ∧ rest = dl 0 l) ∨ (way = 0 ∧ rest = fx l)) := by
  unfold put
  split
  · exact ⟨0, fx l, by simp, .inr ⟨rfl, rfl⟩⟩
  · exact ⟨1, dl 0 l, by simp, .inl ⟨rfl, rfl⟩⟩
theorem takeL_put (l r : List Int) (h : ∀ x ∈ l, I64 x) (hn : l.length ≤ 2000) : takeL (put l ++ r) = some l ∧ var (put l ++ r) = ((l.length : Int), ((pv l.length).length : Int)) ∧ (pv l.length).length < (put l ++ r).length := by
  obtain ⟨way, rest, e, hw⟩ := put_head l r hn
  have hv : var (put l ++ r) = ((l.length : Int), ((pv l.length).length : Int)) := by rw [e]; exact var_pv (by omega) ⟨_, rfl⟩
  refine ⟨?_, hv, by rw [e]; simp⟩
  have e1 : (put l ++ r).getD (pv l.length).length 0 = way := by rw [e]; simp [List.getD]
  have e2 : (put l ++ r).drop ((pv l.length).length + 1) = rest ++ r := by rw [e]; simp
  unfold takeL
  rw [hv]
  simp only [Int.toNat_natCast]
  rw [e1, e2]
  rcases hw with ⟨rfl, rfl⟩ | ⟨rfl, rfl⟩
  · rw [if_pos rfl, stepsR_dl l r 0 ⟨by omega, by omega⟩ h]; rfl
  · rw [if_neg (by omega), wideR_fx l r h]; rfl
theorem takeM_put (l : List Int) (h : ∀ x ∈ l, I64 x) (hn : l.length ≤ 2000) : takeM (put l) = some l := by
  obtain ⟨h1, h2, h3⟩ := takeL_put l [] h hn
  rw [List.append_nil] at h1 h2 h3
  unfold takeM
  have hp := pv_pos l.length
  rw [h2]
  simp only
  rw [if_neg (by omega), h1, Option.bind_some, if_pos rfl]
/-- A part of what was put is none, and nothing is put behind it. -/
theorem takeM_more (l r : List Int) (h : ∀ x ∈ l, I64 x) (hn : l.length ≤ 2000) (hr : r ≠ []) : takeM (put l ++ r) = none := by
  cases ht : takeM (put l ++ r) with
  | none => rfl
  | some x =>
    obtain ⟨h1, _, h3⟩ := takeM_some ht
    rw [(takeL_put l r h hn).1] at h3
    obtain rfl := Option.some.inj h3
    exact absurd (List.append_right_eq_self.1 h1.symm) hr
theorem takeM_part (l : List Int) (k : Nat) (h : ∀ x ∈ l, I64 x) (hn : l.length ≤ 2000) (hk : k < (put l).length) : takeM ((put l).take k) = none := by
  cases ht : takeM ((put l).take k) with
  | none => rfl
  | some x =>
    obtain ⟨h1, h2, h3⟩ := takeM_some ht
    have hx : ∀ y ∈ x, I64 y := takeL_i64 h3
    have e : put l = put x ++ (put l).drop k := by rw [h1]; exact (List.take_append_drop k _).symm
    have hne : (put l).drop k ≠ [] := fun h0 => by
      have := congrArg List.length h0
      rw [List.length_drop] at this
      simp at this
      omega
    have h4 := takeM_more x _ hx h2 hne
    rw [← e, takeM_put l h hn] at h4
    cases h4

end Go.Proofs.Ytlhimfkhcdpciaa.IntsT
