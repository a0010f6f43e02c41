/-
  Plain mathematics of texts as bytes: how they are put, in both ways, and what bytes say. No program in sight.
-/
import Derived.Test.YtnecipeckamiiaaVarM
import Derived.Test.YtnecipeckamiiaaWMore
namespace Go.Proofs.Ytnecipeckamiiaa.TextsT
open Go.RowKit Go.Proofs.YtnecipeckamiiaaW.PrintWords Go.Proofs.YtnecipeckamiiaaW.PrintMore Go.Proofs.Ytnecipeckamiiaa.Bits Go.Proofs.Ytnecipeckamiiaa.Num Go.Proofs.Ytnecipeckamiiaa.VarM

/-! ### texts and their bytes -/
theorem bytesOf_Bytes (s : ByteArray) : Bytes (bytesOf s) := by
  intro c hc
  obtain ⟨b, _, rfl⟩ := List.mem_map.1 hc
  have := b.toNat_lt
  omega
theorem str_bytesOf (s : ByteArray) : strOfNums (bytesOf s) = s := by
  apply ByteArray.ext
  apply Array.ext'
  rw [strOfNums_data, bytesOf, List.map_map]
  conv => rhs; rw [← List.map_id s.data.toList]
  apply List.map_congr_left
  intro b _
  simp
theorem bytesOf_str (l : List Int) (h : Bytes l) : bytesOf (strOfNums l) = l := by
  rw [bytesOf, strOfNums_data, List.map_map]
  conv => rhs; rw [← List.map_id l]
  apply List.map_congr_left
  intro c hc
  have := h c hc
  simp
  omega
theorem bytesOf_inj {s t : ByteArray} (h : bytesOf s = bytesOf t) : s = t := by rw [← str_bytesOf s, h, str_bytesOf]

instance : LawfulBEq ByteArray where
  eq_of_beq {a b} h := by
    cases a; cases b
    have h1 : (_ == _) = true := h
    exact congrArg ByteArray.mk (eq_of_beq h1)
  rfl {a} := by
    cases a
    exact beq_self_eq_true (α := Array UInt8) _

/-! ### how they are put -/
def each : List ByteArray → List Int
  | [] => []
  | s :: l => pv s.size ++ (bytesOf s ++ each l)
/-- Words behind those that are there. -/
def more (acc : List ByteArray) (s : ByteArray) : List ByteArray := if s ∈ acc then acc else acc ++ [s]
def words : List ByteArray → List ByteArray → List ByteArray
  | acc, [] => acc
  | acc, s :: l => words (more acc s) l
def wheres : List ByteArray → List ByteArray → List Int
  | _, [] => []
  | acc, s :: l => pv (acc.idxOf s) ++ wheres (more acc s) l
def dict (l : List ByteArray) : List Int := pv (words [] l).length ++ (each (words [] l) ++ wheres [] l)
def put (l : List ByteArray) : List Int := pv l.length ++ if (dict l).length < (each l).length then 1 :: dict l else 0 :: each l

/-! ### what bytes say -/
def textR (b : List Int) : Option (ByteArray × List Int) :=
  if (var b).2 = 0 ∨ (var b).1 > 60 ∨ (b.length : Int) - (var b).2 < (var b).1 then none
  else some (strOfNums ((b.drop (var b).2.toNat).take (var b).1.toNat), b.drop ((var b).2.toNat + (var b).1.toNat))
def eachR : List Int → Nat → Option (List ByteArray × List Int)
  | b, 0 => some ([], b)
  | b, n + 1 => (textR b).bind fun p => (eachR p.2 n).map fun q => (p.1 :: q.1, q.2)
def placesR (ws : List ByteArray) : List Int → Nat → Option (List ByteArray × List Int)
  | b, 0 => some ([], b)
  | b, n + 1 => if (var b).2 = 0 ∨ (var b).1 ≥ ws.length then none else (placesR ws (b.drop (var b).2.toNat) n).map fun q => (ws.getD (var b).1.toNat ByteArray.empty :: q.1, q.2)
def numberedR (b : List Int) (n : Nat) : Option (List ByteArray × List Int) :=
  if (var b).2 = 0 ∨ (var b).1 > n then none
  else (eachR (b.drop (var b).2.toNat) (var b).1.toNat).bind fun p => placesR p.1 p.2 n
def takeL (b : List Int) : Option (List ByteArray) :=
  (if b.getD (var b).2.toNat 0 = 1 then numberedR (b.drop ((var b).2.toNat + 1)) (var b).1.toNat else eachR (b.drop ((var b).2.toNat + 1)) (var b).1.toNat).map Prod.fst
def takeM (b : List Int) : Option (List ByteArray) :=
  if (var b).2 = 0 ∨ (var b).1 > 2000 ∨ (var b).2 ≥ b.length then none
  else (takeL b).bind fun l => if put l = b then some l else none

theorem each_Bytes (l : List ByteArray) : Bytes (each l) := by
  induction l with
  | nil => intro c hc; simp [each] at hc
  | cons s l ih => exact (pv_Bytes _).append ((bytesOf_Bytes s).append ih)
theorem wheres_Bytes (l : List ByteArray) : ∀ acc, Bytes (wheres acc l) := by
  induction l with
  | nil => intro acc c hc; simp [wheres] at hc
  | cons s l ih => intro acc; exact (pv_Bytes _).append (ih _)
theorem dict_Bytes (l : List ByteArray) : Bytes (dict l) := (pv_Bytes _).append ((each_Bytes _).append (wheres_Bytes _ _))
theorem put_Bytes (l : List ByteArray) : Bytes (put l) := by
  unfold put
  refine (pv_Bytes _).append ?_
  split
  · intro c hc; rcases List.mem_cons.1 hc with rfl | hc
    · omega
    · exact dict_Bytes l c hc
  · intro c hc; rcases List.mem_cons.1 hc with rfl | hc
    · omega
    · exact each_Bytes l c hc
theorem textR_put (s : ByteArray) (r : List Int) (hs : s.size ≤ 60) : textR (pv s.size ++ (bytesOf s ++ r)) = some (s, r) := by
  have hv : var (pv s.size ++ (bytesOf s ++ r)) = ((s.size : Int), ((pv s.size).length : Int)) := var_pv (by omega) ⟨_, rfl⟩
  have hp := pv_pos s.size
  have hl := bytesOf_length s
  unfold textR
  rw [hv]
  simp only [Int.toNat_natCast]
  rw [if_neg (by simp only [List.length_append]; omega), List.drop_left' rfl, List.take_left' hl, str_bytesOf, ← List.drop_drop, List.drop_left' rfl, List.drop_left' hl]
theorem eachR_each (l : List ByteArray) : ∀ r, (∀ s ∈ l, s.size ≤ 60) → eachR (each l ++ r) l.length = some (l, r) := by
  induction l with
  | nil => intro r _; simp [each, eachR]
  | cons s l ih =>
    intro r h
    rw [each, List.append_assoc, List.append_assoc, List.length_cons, eachR, textR_put s _ (h s List.mem_cons_self), Option.bind_some, ih r (fun x hx => h x (List.mem_cons_of_mem _ hx))]
    rfl
theorem more_sub {acc : List ByteArray} {s : ByteArray} : s ∈ more acc s := by
  unfold more
  split
  · assumption
  · simp
theorem more_keep {acc : List ByteArray} {s t : ByteArray} (h : t ∈ acc) : t ∈ more acc s := by
  unfold more
  split
  · exact h
  · simp [h]
theorem more_prefix (acc : List ByteArray) (s : ByteArray) : acc <+: more acc s := by
  unfold more
  split
  · exact List.prefix_refl _
  · exact ⟨_, rfl⟩
theorem words_prefix (l : List ByteArray) : ∀ acc, acc <+: words acc l := by
  induction l with
  | nil => intro acc; exact List.prefix_refl _
  | cons s l ih => intro acc; exact (more_prefix acc s).trans (ih _)
theorem idxOf_more (acc : List ByteArray) (s : ByteArray) : (more acc s)[acc.idxOf s]? = some s := by
  unfold more
  by_cases h : s ∈ acc
  · rw [if_pos h]
    induction acc with
    | nil => cases h
    | cons t acc ih =>
      rw [List.idxOf_cons]
      by_cases e : t = s
      · rw [e]; simp
      · rw [beq_eq_false_iff_ne.mpr e]
        simpa using ih ((List.mem_cons.1 h).resolve_left (fun h => e h.symm))
  · rw [if_neg h, List.idxOf_eq_length h]
    simp
theorem words_length (l : List ByteArray) : ∀ acc, (words acc l).length ≤ acc.length + l.length := by
  induction l with
  | nil => intro acc; simp [words]
  | cons s l ih =>
    intro acc
    have h := ih (more acc s)
    rw [words, List.length_cons]
    have : (more acc s).length ≤ acc.length + 1 := by unfold more; split <;> simp
    omega
theorem words_mem (l : List ByteArray) : ∀ acc, ∀ s ∈ words acc l, s ∈ acc ∨ s ∈ l := by
  induction l with
  | nil => intro acc s h; exact .inl h
  | cons t l ih =>
    intro acc s h
    rcases ih _ s h with h | h
    · unfold more at h
      split at h
      · exact .inl h
      · rcases List.mem_append.1 h with h | h
        · exact .inl h
        · exact .inr (by simp at h; simp [h])
    · exact .inr (List.mem_cons_of_mem _ h)
theorem placesR_wheres (ws : List ByteArray) (hw : ws.length < 18446744073709551616) (l : List ByteArray) : ∀ (acc : List ByteArray) (r : List Int), words acc l <+: ws → placesR ws (wheres acc l ++ r) l.length = some (l, r) := by
  induction l with
  | nil => intro acc r _; simp [wheres, placesR]
  | cons s l ih =>
    intro acc r h
    have h1 : (more acc s) <+: ws := (words_prefix l (more acc s)).trans h
    have h2 : ws[acc.idxOf s]? = some s := by
      obtain ⟨t, rfl⟩ := h1
      have := idxOf_more acc s
      rw [List.getElem?_append_left (by
        by_cases hlt : acc.idxOf s < (more acc s).length
        · exact hlt
        · rw [List.getElem?_eq_none (by omega)] at this; cases this)]
      exact this
    have h3 : acc.idxOf s < ws.length := by
      by_cases hlt : acc.idxOf s < ws.length
      · exact hlt
      · rw [List.getElem?_eq_none (by omega)] at h2; cases h2
    have hv : var (wheres acc (s :: l) ++ r) = ((acc.idxOf s : Int), ((pv (acc.idxOf s)).length : Int)) := var_pv (by omega) ⟨wheres (more acc s) l ++ r, by rw [wheres, List.append_assoc]⟩
    have hp := pv_pos (acc.idxOf s)
    rw [List.length_cons, placesR, hv]
    simp only [Int.toNat_natCast]
    rw [if_neg (by omega), wheres, List.append_assoc, List.drop_left' rfl, ih _ r h, List.getD_eq_getElem?_getD, h2]
    rfl

theorem numberedR_dict (l : List ByteArray) (r : List Int) (h : ∀ s ∈ l, s.size ≤ 60) (hn : l.length ≤ 2000) : numberedR (dict l ++ r) l.length = some (l, r) := by
  have hw := words_length l []
  rw [List.length_nil, Nat.zero_add] at hw
  have hm : ∀ s ∈ words [] l, s.size ≤ 60 := fun s hs => (words_mem l [] s hs).elim (fun h0 => by cases h0) (h s)
  have hv : var (dict l ++ r) = (((words [] l).length : Int), ((pv (words [] l).length).length : Int)) := var_pv (by omega) ⟨_, by rw [dict, List.append_assoc]⟩
  have hp := pv_pos (words [] l).length
  unfold numberedR
  rw [hv]
  simp only [Int.toNat_natCast]
  rw [if_neg (by omega), dict, List.append_assoc, List.drop_left' rfl, List.append_assoc, eachR_each _ _ hm, Option.bind_some, placesR_wheres _ (by omega) l [] r (List.prefix_refl _)]
theorem put_head (l r : List Int) (ts : List ByteArray) (hl : put ts ++ r = l) : ∃ way rest, l = pv ts.length ++ way :: (rest ++ r) ∧ ((way = 1 ∧ rest = dict ts) ∨ (way = 0 ∧ rest = each ts)) := by
  subst hl
  unfold put
  split
  · exact ⟨1, dict ts, by simp, .inl ⟨rfl, rfl⟩⟩
  · exact ⟨0, each ts, by simp, .inr ⟨rfl, rfl⟩⟩
theorem takeL_put (l : List ByteArray) (r : List Int) (h : ∀ s ∈ l, s.size ≤ 60) (hn : l.length ≤ 2000) : takeL (put l ++ r) = some l ∧ var (put l ++ r) = ((l.length : Int), ((pv l.length).length : Int)) ∧ (pv l.length).length < (put l ++ r).length := by
  obtain ⟨way, rest, e, hw⟩ := put_head _ r l rfl
  have hv : var (put l ++ r) = ((l.length : Int), ((pv l.length).length : Int)) := by rw [e]; exact var_pv (by omega) ⟨_, rfl⟩
  refine ⟨?_, hv, by rw [e]; simp⟩
  have e1 : (put l ++ r).getD (pv l.length).length 0 = way := by rw [e]; simp [List.getD]
  have e2 : (put l ++ r).drop ((pv l.length).length + 1) = rest ++ r := by rw [e]; simp
  unfold takeL
  rw [hv]
  simp only [Int.toNat_natCast]
  rw [e1, e2]
  rcases hw with ⟨rfl, rfl⟩ | ⟨rfl, rfl⟩
  · rw [if_pos rfl, numberedR_dict l r h hn]; rfl
  · rw [if_neg (by omega), eachR_each l r h]; rfl
theorem takeM_put (l : List ByteArray) (h : ∀ s ∈ l, s.size ≤ 60) (hn : l.length ≤ 2000) : takeM (put l) = some l := by
  obtain ⟨h1, h2, h3⟩ := takeL_put l [] h hn
  rw [List.append_nil] at h1 h2 h3
  unfold takeM
  have hp := pv_pos l.length
  rw [h2]
  simp only
  rw [if_neg (by omega), h1, Option.bind_some, if_pos rfl]
theorem textR_size {b : List Int} {p : ByteArray × List Int} (h : textR b = some p) : p.1.size ≤ 60 := by
  unfold textR at h
  split at h
  · cases h
  · rename_i hn
    obtain rfl := Option.some.inj h
    rw [strOfNums_size, List.length_take]
    omega
theorem eachR_size (n : Nat) : ∀ (b : List Int) (p), eachR b n = some p → p.1.length = n ∧ ∀ s ∈ p.1, s.size ≤ 60 := by
  induction n with
  | zero => intro b p h; rw [eachR] at h; obtain rfl := Option.some.inj h; simp
  | succ n ih =>
    intro b p h
    rw [eachR] at h
    obtain ⟨t, ht, h⟩ := Option.bind_eq_some_iff.1 h
    obtain ⟨q, hq, rfl⟩ := Option.map_eq_some_iff.1 h
    have h2 := ih _ _ hq
    refine ⟨by simp [h2.1], fun s hs => ?_⟩
    rcases List.mem_cons.1 hs with rfl | hs
    · exact textR_size ht
    · exact h2.2 s hs
theorem getD_size (ws : List ByteArray) (k : Nat) (h : ∀ s ∈ ws, s.size ≤ 60) : (ws.getD k ByteArray.empty).size ≤ 60 := by
  rw [List.getD_eq_getElem?_getD]
  cases hk : ws[k]? with
  | none => exact Nat.zero_le _
  | some s => exact h s (List.mem_of_getElem? hk)
theorem placesR_size (ws : List ByteArray) (hw : ∀ s ∈ ws, s.size ≤ 60) (n : Nat) : ∀ (b : List Int) (p), placesR ws b n = some p → p.1.length = n ∧ ∀ s ∈ p.1, s.size ≤ 60 := by
  induction n with
  | zero => intro b p h; rw [placesR] at h; obtain rfl := Option.some.inj h; simp
  | succ n ih =>
    intro b p h
    rw [placesR] at h
    split at h
    · cases h
    · obtain ⟨q, hq, rfl⟩ := Option.map_eq_some_iff.1 h
      have h2 := ih _ _ hq
      refine ⟨by simp [h2.1], fun s hs => ?_⟩
      rcases List.mem_cons.1 hs with rfl | hs
      · exact getD_size ws _ hw
      · exact h2.2 s hs
theorem numberedR_size {b : List Int} {n : Nat} {p} (h : numberedR b n = some p) : p.1.length = n ∧ ∀ s ∈ p.1, s.size ≤ 60 := by
  unfold numberedR at h
  split at h
  · cases h
  · obtain ⟨q, hq, h⟩ := Option.bind_eq_some_iff.1 h
    exact placesR_size _ (eachR_size _ _ _ hq).2 _ _ _ h
theorem takeL_size {b : List Int} {l : List ByteArray} (h : takeL b = some l) : l.length = (var b).1.toNat ∧ ∀ s ∈ l, s.size ≤ 60 := by
  unfold takeL at h
  obtain ⟨p, hp, rfl⟩ := Option.map_eq_some_iff.1 h
  split at hp
  · exact numberedR_size hp
  · exact eachR_size _ _ _ hp
theorem takeM_some {b : List Int} {l : List ByteArray} (h : takeM b = some l) : put l = b ∧ l.length ≤ 2000 ∧ takeL b = some l := by
  unfold takeM at h
  split at h
  · cases h
  · rename_i hg
    obtain ⟨x, hx, h⟩ := Option.bind_eq_some_iff.1 h
    split at h
    · rename_i hp
      obtain rfl := Option.some.inj h
      have := (takeL_size hx).1
      exact ⟨hp, by omega, hx⟩
    · cases h
/-- A part of what was put is none, and nothing is put behind it. -/
theorem takeM_more (l : List ByteArray) (r : List Int) (h : ∀ s ∈ l, s.size ≤ 60) (hn : l.length ≤ 2000) (hr : r ≠ []) : takeM (put l ++ r) = none := by
  cases ht : takeM (put l ++ r) with
  | none => rfl
  | some x =>
    obtain ⟨h1, _, h3⟩ := takeM_some ht
    rw [(takeL_put l r h hn).1] at h3
    obtain rfl := Option.some.inj h3
    exact absurd (List.append_right_eq_self.1 h1.symm) hr
theorem takeM_part (l : List ByteArray) (k : Nat) (h : ∀ s ∈ l, s.size ≤ 60) (hn : l.length ≤ 2000) (hk : k < (put l).length) : takeM ((put l).take k) = none := by
  cases ht : takeM ((put l).take k) with
  | none => rfl
  | some x =>
    obtain ⟨h1, h2, h3⟩ := takeM_some ht
    have e : put l = put x ++ (put l).drop k := by rw [h1]; exact (List.take_append_drop k _).symm
    have hne : (put l).drop k ≠ [] := fun h0 => by
      have := congrArg List.length h0
      rw [List.length_drop] at this
      simp at this
      omega
    have h4 := takeM_more x _ (takeL_size h3).2 h2 hne
    rw [← e, takeM_put l h hn] at h4
    cases h4

end Go.Proofs.Ytnecipeckamiiaa.TextsT
