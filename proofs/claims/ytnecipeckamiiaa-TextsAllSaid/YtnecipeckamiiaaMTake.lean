/-
  Contracts for the law Take: my texts, one behind the other (merge.py).
-/
import Derived.Test.YtnecipeckamiiaaVarM
import Derived.Test.YtnecipeckamiiaaWMore
import Derived.Test.YtnecipeckamiiaaHold
import Derived.Test.YtnecipeckamiiaaProg
import Derived.KernelRfl
import Derived.Maps.OwnSet
import Derived.Maps.Views
import Derived.DeepKeys4
import Derived.Test.YtnecipeckamiiaaQTextsAllx1
import Derived.WalkArith
import Derived.Test.YtnecipeckamiiaaQTextsAllx2
import Derived.Test.YtnecipeckamiiaaQTextsAllx3
import Derived.Test.YtnecipeckamiiaaRVar
import Derived.Test.YtnecipeckamiiaaShelf
import Derived.Deep.Strs
import Derived.SizedLaws
/- TextsT: Plain mathematics of texts as bytes: how they are put, in both ways, and what bytes say. No program in sight. -/
namespace Go.Proofs.Ytnecipeckamiiaa.TextsT
open Go.RowKit Go.Proofs.YtnecipeckamiiaaW.PrintWords Go.Proofs.YtnecipeckamiiaaW.PrintMore Go.Proofs.Ytnecipeckamiiaa.Bits Go.Proofs.Ytnecipeckamiiaa.Num Go.Proofs.Ytnecipeckamiiaa.VarM

/-! ### texts and their bytes -/
theorem bytesOf_Bytes (s : ByteArray) : Bytes (bytesOf s) := by
  intro c hc
  obtain ⟨b, _, rfl⟩ := List.mem_map.1 hc
  have := b.toNat_lt
  omega
theorem str_bytesOf (s : ByteArray) : strOfNums (bytesOf s) = s := by
  apply ByteArray.ext
  apply Array.ext'
  rw [strOfNums_data, bytesOf, List.map_map]
  conv => rhs; rw [← List.map_id s.data.toList]
  apply List.map_congr_left
  intro b _
  simp
theorem bytesOf_str (l : List Int) (h : Bytes l) : bytesOf (strOfNums l) = l := by
  rw [bytesOf, strOfNums_data, List.map_map]
  conv => rhs; rw [← List.map_id l]
  apply List.map_congr_left
  intro c hc
  have := h c hc
  simp
  omega
theorem bytesOf_inj {s t : ByteArray} (h : bytesOf s = bytesOf t) : s = t := by rw [← str_bytesOf s, h, str_bytesOf]

instance : LawfulBEq ByteArray where
  eq_of_beq {a b} h := by
    cases a; cases b
    have h1 : (_ == _) = true := h
    exact congrArg ByteArray.mk (eq_of_beq h1)
  rfl {a} := by
    cases a
    exact beq_self_eq_true (α := Array UInt8) _

/-! ### how they are put -/
def each : List ByteArray → List Int
  | [] => []
  | s :: l => pv s.size ++ (bytesOf s ++ each l)
/-- Words behind those that are there. -/
def more (acc : List ByteArray) (s : ByteArray) : List ByteArray := if s ∈ acc then acc else acc ++ [s]
def words : List ByteArray → List ByteArray → List ByteArray
  | acc, [] => acc
  | acc, s :: l => words (more acc s) l
def wheres : List ByteArray → List ByteArray → List Int
  | _, [] => []
  | acc, s :: l => pv (acc.idxOf s) ++ wheres (more acc s) l
def dict (l : List ByteArray) : List Int := pv (words [] l).length ++ (each (words [] l) ++ wheres [] l)
def put (l : List ByteArray) : List Int := pv l.length ++ if (dict l).length < (each l).length then 1 :: dict l else 0 :: each l

/-! ### what bytes say -/
def textR (b : List Int) : Option (ByteArray × List Int) :=
  if (var b).2 = 0 ∨ (var b).1 > 60 ∨ (b.length : Int) - (var b).2 < (var b).1 then none
  else some (strOfNums ((b.drop (var b).2.toNat).take (var b).1.toNat), b.drop ((var b).2.toNat + (var b).1.toNat))
def eachR : List Int → Nat → Option (List ByteArray × List Int)
  | b, 0 => some ([], b)
  | b, n + 1 => (textR b).bind fun p => (eachR p.2 n).map fun q => (p.1 :: q.1, q.2)
def placesR (ws : List ByteArray) : List Int → Nat → Option (List ByteArray × List Int)
  | b, 0 => some ([], b)
  | b, n + 1 => if (var b).2 = 0 ∨ (var b).1 ≥ ws.length then none else (placesR ws (b.drop (var b).2.toNat) n).map fun q => (ws.getD (var b).1.toNat ByteArray.empty :: q.1, q.2)
def numberedR (b : List Int) (n : Nat) : Option (List ByteArray × List Int) :=
  if (var b).2 = 0 ∨ (var b).1 > n then none
  else (eachR (b.drop (var b).2.toNat) (var b).1.toNat).bind fun p => placesR p.1 p.2 n
def takeL (b : List Int) : Option (List ByteArray) :=
  (if b.getD (var b).2.toNat 0 = 1 then numberedR (b.drop ((var b).2.toNat + 1)) (var b).1.toNat else eachR (b.drop ((var b).2.toNat + 1)) (var b).1.toNat).map Prod.fst
def takeM (b : List Int) : Option (List ByteArray) :=
  if (var b).2 = 0 ∨ (var b).1 > 2000 ∨ (var b).2 ≥ b.length then none
  else (takeL b).bind fun l => if put l = b then some l else none

theorem each_Bytes (l : List ByteArray) : Bytes (each l) := by
  induction l with
  | nil => intro c hc; simp [each] at hc
  | cons s l ih => exact (pv_Bytes _).append ((bytesOf_Bytes s).append ih)
theorem wheres_Bytes (l : List ByteArray) : ∀ acc, Bytes (wheres acc l) := by
  induction l with
  | nil => intro acc c hc; simp [wheres] at hc
  | cons s l ih => intro acc; exact (pv_Bytes _).append (ih _)
theorem dict_Bytes (l : List ByteArray) : Bytes (dict l) := (pv_Bytes _).append ((each_Bytes _).append (wheres_Bytes _ _))
theorem put_Bytes (l : List ByteArray) : Bytes (put l) := by
  unfold put
  refine (pv_Bytes _).append ?_
  split
  · intro c hc; rcases List.mem_cons.1 hc with rfl | hc
    · omega
    · exact dict_Bytes l c hc
  · intro c hc; rcases List.mem_cons.1 hc with rfl | hc
    · omega
    · exact each_Bytes l c hc
theorem textR_put (s : ByteArray) (r : List Int) (hs : s.size ≤ 60) : textR (pv s.size ++ (bytesOf s ++ r)) = some (s, r) := by
  have hv : var (pv s.size ++ (bytesOf s ++ r)) = ((s.size : Int), ((pv s.size).length : Int)) := var_pv (by omega) ⟨_, rfl⟩
  have hp := pv_pos s.size
  have hl := bytesOf_length s
  unfold textR
  rw [hv]
  simp only [Int.toNat_natCast]
  rw [if_neg (by simp only [List.length_append]; omega), List.drop_left' rfl, List.take_left' hl, str_bytesOf, ← List.drop_drop, List.drop_left' rfl, List.drop_left' hl]
theorem eachR_each (l : List ByteArray) : ∀ r, (∀ s ∈ l, s.size ≤ 60) → eachR (each l ++ r) l.length = some (l, r) := by
  induction l with
  | nil => intro r _; simp [each, eachR]
  | cons s l ih =>
    intro r h
    rw [each, List.append_assoc, List.append_assoc, List.length_cons, eachR, textR_put s _ (h s List.mem_cons_self), Option.bind_some, ih r (fun x hx => h x (List.mem_cons_of_mem _ hx))]
    rfl
theorem more_sub {acc : List ByteArray} {s : ByteArray} : s ∈ more acc s := by
  unfold more
  split
  · assumption
  · simp
theorem more_keep {acc : List ByteArray} {s t : ByteArray} (h : t ∈ acc) : t ∈ more acc s := by
  unfold more
  split
  · exact h
  · simp [h]
theorem more_prefix (acc : List ByteArray) (s : ByteArray) : acc <+: more acc s := by
  unfold more
  split
  · exact List.prefix_refl _
  · exact ⟨_, rfl⟩
theorem words_prefix (l : List ByteArray) : ∀ acc, acc <+: words acc l := by
  induction l with
  | nil => intro acc; exact List.prefix_refl _
  | cons s l ih => intro acc; exact (more_prefix acc s).trans (ih _)
theorem idxOf_more (acc : List ByteArray) (s : ByteArray) : (more acc s)[acc.idxOf s]? = some s := by
  unfold more
  by_cases h : s ∈ acc
  · rw [if_pos h]
    induction acc with
    | nil => cases h
    | cons t acc ih =>
      rw [List.idxOf_cons]
      by_cases e : t = s
      · rw [e]; simp
      · rw [beq_eq_false_iff_ne.mpr e]
        simpa using ih ((List.mem_cons.1 h).resolve_left (fun h => e h.symm))
  · rw [if_neg h, List.idxOf_eq_length h]
    simp
theorem words_length (l : List ByteArray) : ∀ acc, (words acc l).length ≤ acc.length + l.length := by
  induction l with
  | nil => intro acc; simp [words]
  | cons s l ih =>
    intro acc
    have h := ih (more acc s)
    rw [words, List.length_cons]
    have : (more acc s).length ≤ acc.length + 1 := by unfold more; split <;> simp
    omega
theorem words_mem (l : List ByteArray) : ∀ acc, ∀ s ∈ words acc l, s ∈ acc ∨ s ∈ l := by
  induction l with
  | nil => intro acc s h; exact .inl h
  | cons t l ih =>
    intro acc s h
    rcases ih _ s h with h | h
    · unfold more at h
      split at h
      · exact .inl h
      · rcases List.mem_append.1 h with h | h
        · exact .inl h
        · exact .inr (by simp at h; simp [h])
    · exact .inr (List.mem_cons_of_mem _ h)
theorem placesR_wheres (ws : List ByteArray) (hw : ws.length < 18446744073709551616) (l : List ByteArray) : ∀ (acc : List ByteArray) (r : List Int), words acc l <+: ws → placesR ws (wheres acc l ++ r) l.length = some (l, r) := by
  induction l with
  | nil => intro acc r _; simp [wheres, placesR]
  | cons s l ih =>
    intro acc r h
    have h1 : (more acc s) <+: ws := (words_prefix l (more acc s)).trans h
    have h2 : ws[acc.idxOf s]? = some s := by
      obtain ⟨t, rfl⟩ := h1
      have := idxOf_more acc s
      rw [List.getElem?_append_left (by
        by_cases hlt : acc.idxOf s < (more acc s).length
        · exact hlt
        · rw [List.getElem?_eq_none (by omega)] at this; cases this)]
      exact this
    have h3 : acc.idxOf s < ws.length := by
      by_cases hlt : acc.idxOf s < ws.length
      · exact hlt
      · rw [List.getElem?_eq_none (by omega)] at h2; cases h2
    have hv : var (wheres acc (s :: l) ++ r) = ((acc.idxOf s : Int), ((pv (acc.idxOf s)).length : Int)) := var_pv (by omega) ⟨wheres (more acc s) l ++ r, by rw [wheres, List.append_assoc]⟩
    have hp := pv_pos (acc.idxOf s)
    rw [List.length_cons, placesR, hv]
    simp only [Int.toNat_natCast]
    rw [if_neg (by omega), wheres, List.append_assoc, List.drop_left' rfl, ih _ r h, List.getD_eq_getElem?_getD, h2]
    rfl

theorem numberedR_dict (l : List ByteArray) (r : List Int) (h : ∀ s ∈ l, s.size ≤ 60) (hn : l.length ≤ 2000) : numberedR (dict l ++ r) l.length = some (l, r) := by
  have hw := words_length l []
  rw [List.length_nil, Nat.zero_add] at hw
  have hm : ∀ s ∈ words [] l, s.size ≤ 60 := fun s hs => (words_mem l [] s hs).elim (fun h0 => by cases h0) (h s)
  have hv : var (dict l ++ r) = (((words [] l).length : Int), ((pv (words [] l).length).length : Int)) := var_pv (by omega) ⟨_, by rw [dict, List.append_assoc]⟩
  have hp := pv_pos (words [] l).length
  unfold numberedR
  rw [hv]
  simp only [Int.toNat_natCast]
  rw [if_neg (by omega), dict, List.append_assoc, List.drop_left' rfl, List.append_assoc, eachR_each _ _ hm, Option.bind_some, placesR_wheres _ (by omega) l [] r (List.prefix_refl _)]
theorem put_head (l r : List Int) (ts : List ByteArray) (hl : put ts ++ r = l) : ∃ way rest, l = pv ts.length ++ way :: (rest ++ r) ∧ ((way = 1 ∧ rest = dict ts) ∨ (way = 0 ∧ rest = each ts)) := by
  subst hl
  unfold put
  split
  · exact ⟨1, dict ts, by simp, .inl ⟨rfl, rfl⟩⟩
  · exact ⟨0, each ts, by simp, .inr ⟨rfl, rfl⟩⟩
theorem takeL_put (l : List ByteArray) (r : List Int) (h : ∀ s ∈ l, s.size ≤ 60) (hn : l.length ≤ 2000) : takeL (put l ++ r) = some l ∧ var (put l ++ r) = ((l.length : Int), ((pv l.length).length : Int)) ∧ (pv l.length).length < (put l ++ r).length := by
  obtain ⟨way, rest, e, hw⟩ := put_head _ r l rfl
  have hv : var (put l ++ r) = ((l.length : Int), ((pv l.length).length : Int)) := by rw [e]; exact var_pv (by omega) ⟨_, rfl⟩
  refine ⟨?_, hv, by rw [e]; simp⟩
  have e1 : (put l ++ r).getD (pv l.length).length 0 = way := by rw [e]; simp [List.getD]
  have e2 : (put l ++ r).drop ((pv l.length).length + 1) = rest ++ r := by rw [e]; simp
  unfold takeL
  rw [hv]
  simp only [Int.toNat_natCast]
  rw [e1, e2]
  rcases hw with ⟨rfl, rfl⟩ | ⟨rfl, rfl⟩
  · rw [if_pos rfl, numberedR_dict l r h hn]; rfl
  · rw [if_neg (by omega), eachR_each l r h]; rfl
theorem takeM_put (l : List ByteArray) (h : ∀ s ∈ l, s.size ≤ 60) (hn : l.length ≤ 2000) : takeM (put l) = some l := by
  obtain ⟨h1, h2, h3⟩ := takeL_put l [] h hn
  rw [List.append_nil] at h1 h2 h3
  unfold takeM
  have hp := pv_pos l.length
  rw [h2]
  simp only
  rw [if_neg (by omega), h1, Option.bind_some, if_pos rfl]
theorem textR_size {b : List Int} {p : ByteArray × List Int} (h : textR b = some p) : p.1.size ≤ 60 := by
  unfold textR at h
  split at h
  · cases h
  · rename_i hn
    obtain rfl := Option.some.inj h
    rw [strOfNums_size, List.length_take]
    omega
theorem eachR_size (n : Nat) : ∀ (b : List Int) (p), eachR b n = some p → p.1.length = n ∧ ∀ s ∈ p.1, s.size ≤ 60 := by
  induction n with
  | zero => intro b p h; rw [eachR] at h; obtain rfl := Option.some.inj h; simp
  | succ n ih =>
    intro b p h
    rw [eachR] at h
    obtain ⟨t, ht, h⟩ := Option.bind_eq_some_iff.1 h
    obtain ⟨q, hq, rfl⟩ := Option.map_eq_some_iff.1 h
    have h2 := ih _ _ hq
    refine ⟨by simp [h2.1], fun s hs => ?_⟩
    rcases List.mem_cons.1 hs with rfl | hs
    · exact textR_size ht
    · exact h2.2 s hs
theorem getD_size (ws : List ByteArray) (k : Nat) (h : ∀ s ∈ ws, s.size ≤ 60) : (ws.getD k ByteArray.empty).size ≤ 60 := by
  rw [List.getD_eq_getElem?_getD]
  cases hk : ws[k]? with
  | none => exact Nat.zero_le _
  | some s => exact h s (List.mem_of_getElem? hk)
theorem placesR_size (ws : List ByteArray) (hw : ∀ s ∈ ws, s.size ≤ 60) (n : Nat) : ∀ (b : List Int) (p), placesR ws b n = some p → p.1.length = n ∧ ∀ s ∈ p.1, s.size ≤ 60 := by
  induction n with
  | zero => intro b p h; rw [placesR] at h; obtain rfl := Option.some.inj h; simp
  | succ n ih =>
    intro b p h
    rw [placesR] at h
    split at h
    · cases h
    · obtain ⟨q, hq, rfl⟩ := Option.map_eq_some_iff.1 h
      have h2 := ih _ _ hq
      refine ⟨by simp [h2.1], fun s hs => ?_⟩
      rcases List.mem_cons.1 hs with rfl | hs
      · exact getD_size ws _ hw
      · exact h2.2 s hs
theorem numberedR_size {b : List Int} {n : Nat} {p} (h : numberedR b n = some p) : p.1.length = n ∧ ∀ s ∈ p.1, s.size ≤ 60 := by
  unfold numberedR at h
  split at h
  · cases h
  · obtain ⟨q, hq, h⟩ := Option.bind_eq_some_iff.1 h
    exact placesR_size _ (eachR_size _ _ _ hq).2 _ _ _ h
theorem takeL_size {b : List Int} {l : List ByteArray} (h : takeL b = some l) : l.length = (var b).1.toNat ∧ ∀ s ∈ l, s.size ≤ 60 := by
  unfold takeL at h
  obtain ⟨p, hp, rfl⟩ := Option.map_eq_some_iff.1 h
  split at hp
  · exact numberedR_size hp
  · exact eachR_size _ _ _ hp
theorem takeM_some {b : List Int} {l : List ByteArray} (h : takeM b = some l) : put l = b ∧ l.length ≤ 2000 ∧ takeL b = some l := by
  unfold takeM at h
  split at h
  · cases h
  · rename_i hg
    obtain ⟨x, hx, h⟩ := Option.bind_eq_some_iff.1 h
    split at h
    · rename_i hp
      obtain rfl := Option.some.inj h
      have := (takeL_size hx).1
      exact ⟨hp, by omega, hx⟩
    · cases h
/-- A part of what was put is none, and nothing is put behind it. -/
theorem takeM_more (l : List ByteArray) (r : List Int) (h : ∀ s ∈ l, s.size ≤ 60) (hn : l.length ≤ 2000) (hr : r ≠ []) : takeM (put l ++ r) = none := by
  cases ht : takeM (put l ++ r) with
  | none => rfl
  | some x =>
    obtain ⟨h1, _, h3⟩ := takeM_some ht
    rw [(takeL_put l r h hn).1] at h3
    obtain rfl := Option.some.inj h3
    exact absurd (List.append_right_eq_self.1 h1.symm) hr
theorem takeM_part (l : List ByteArray) (k : Nat) (h : ∀ s ∈ l, s.size ≤ 60) (hn : l.length ≤ 2000) (hk : k < (put l).length) : takeM ((put l).take k) = none := by
  cases ht : takeM ((put l).take k) with
  | none => rfl
  | some x =>
    obtain ⟨h1, h2, h3⟩ := takeM_some ht
    have e : put l = put x ++ (put l).drop k := by rw [h1]; exact (List.take_append_drop k _).symm
    have hne : (put l).drop k ≠ [] := fun h0 => by
      have := congrArg List.length h0
      rw [List.length_drop] at this
      simp at this
      omega
    have h4 := takeM_more x _ (takeL_size h3).2 h2 hne
    rw [← e, takeM_put l h hn] at h4
    cases h4

end Go.Proofs.Ytnecipeckamiiaa.TextsT

/- RdM: What the reader of texts.Take reads, in plain mathematics; no program in sight. -/
namespace Go.Proofs.Ytnecipeckamiiaa.RdM
open Go.RowKit Go.Proofs.YtnecipeckamiiaaW.PrintWords Go.Proofs.YtnecipeckamiiaaW.PrintMore Go.Proofs.Ytnecipeckamiiaa.Bits Go.Proofs.Ytnecipeckamiiaa.Num Go.Proofs.Ytnecipeckamiiaa.VarM Go.Proofs.Ytnecipeckamiiaa.TextsT

def numM (b : List Int) (bad : Bool) (below : Int) : Int × List Int × Bool :=
  if bad = true ∨ (var b).2 = 0 ∨ (var b).1 ≥ below then (0, b, true) else ((var b).1, b.drop (var b).2.toNat, false)
def textM (b : List Int) (bad : Bool) : ByteArray × List Int × Bool :=
  if (numM b bad 61).2.2 = true ∨ ((numM b bad 61).2.1.length : Int) < (numM b bad 61).1 then (ByteArray.empty, (numM b bad 61).2.1, true)
  else (strOfNums ((numM b bad 61).2.1.take (numM b bad 61).1.toNat), (numM b bad 61).2.1.drop (numM b bad 61).1.toNat, false)
def placeM (ws : List ByteArray) (b : List Int) (bad : Bool) : ByteArray × List Int × Bool :=
  if (numM b bad ws.length).2.2 = true then (ByteArray.empty, (numM b bad ws.length).2.1, true)
  else (ws.getD (numM b bad ws.length).1.toNat ByteArray.empty, (numM b bad ws.length).2.1, false)
def someM (step : List Int → Bool → ByteArray × List Int × Bool) : Nat → List Int → Bool → List ByteArray × List Int × Bool
  | 0, b, bad => ([], b, bad)
  | n + 1, b, bad => if bad = true then ([], b, true) else
    ((step b false).1 :: (someM step n (step b false).2.1 (step b false).2.2).1, (someM step n (step b false).2.1 (step b false).2.2).2)
theorem someM_bad (step : List Int → Bool → ByteArray × List Int × Bool) (n : Nat) (b : List Int) : someM step n b true = ([], b, true) := by
  cases n with
  | zero => rfl
  | succ n => rw [someM, if_pos rfl]
/-- One more: behind those that are read. -/
theorem someM_snoc (step : List Int → Bool → ByteArray × List Int × Bool) (n : Nat) : ∀ (b : List Int) (bad : Bool), someM step (n + 1) b bad =
    if (someM step n b bad).2.2 = true then someM step n b bad
    else ((someM step n b bad).1 ++ [(step (someM step n b bad).2.1 false).1], (step (someM step n b bad).2.1 false).2) := by
  induction n with
  | zero => intro b bad; cases bad <;> simp [someM]
  | succ n ih =>
    intro b bad
    cases bad with
    | true => rw [someM_bad, someM_bad, if_pos rfl]
    | false =>
      have e : ∀ k, someM step (k + 1) b false = ((step b false).1 :: (someM step k (step b false).2.1 (step b false).2.2).1, (someM step k (step b false).2.1 (step b false).2.2).2) := fun k => by rw [someM, if_neg (by decide)]
      rw [e (n + 1), e n, ih]
      simp only
      split
      · rfl
      · rfl
theorem someM_length (step : List Int → Bool → ByteArray × List Int × Bool) (n : Nat) : ∀ (b : List Int) (bad : Bool), (someM step n b bad).1.length ≤ n := by
  induction n with
  | zero => intro b bad; simp [someM]
  | succ n ih =>
    intro b bad
    cases bad with
    | true => rw [someM_bad]; simp
    | false =>
      rw [someM, if_neg (by decide), List.length_cons]
      have := ih (step b false).2.1 (step b false).2.2
      omega
theorem someM_length_ok (step : List Int → Bool → ByteArray × List Int × Bool) (n : Nat) : ∀ (b : List Int) (bad : Bool), (someM step n b bad).2.2 = false → (someM step n b bad).1.length = n := by
  induction n with
  | zero => intro b bad _; simp [someM]
  | succ n ih =>
    intro b bad h
    cases bad with
    | true => rw [someM_bad] at h; cases h
    | false =>
      rw [someM, if_neg (by decide)] at h ⊢
      rw [List.length_cons, ih _ _ h]
theorem numM_bytes {b : List Int} (hb : Bytes b) (bad : Bool) (below : Int) : Bytes (numM b bad below).2.1 := by
  unfold numM
  split
  · exact hb
  · exact hb.drop _
theorem textM_bytes {b : List Int} (hb : Bytes b) (bad : Bool) : Bytes (textM b bad).2.1 := by
  unfold textM
  split
  · exact numM_bytes hb _ _
  · exact (numM_bytes hb _ _).drop _
theorem placeM_bytes (ws : List ByteArray) {b : List Int} (hb : Bytes b) (bad : Bool) : Bytes (placeM ws b bad).2.1 := by
  unfold placeM
  split
  · exact numM_bytes hb _ _
  · exact numM_bytes hb _ _
theorem someM_bytes {step : List Int → Bool → ByteArray × List Int × Bool} (hstep : ∀ b bad, Bytes b → Bytes (step b bad).2.1) (n : Nat) : ∀ (b : List Int) (bad : Bool), Bytes b → Bytes (someM step n b bad).2.1 := by
  induction n with
  | zero => intro b bad h; exact h
  | succ n ih =>
    intro b bad h
    cases bad with
    | true => rw [someM_bad]; exact h
    | false => rw [someM, if_neg (by decide)]; exact ih _ _ (hstep b false h)
theorem numM_len (b : List Int) (bad : Bool) (below : Int) : (numM b bad below).2.1.length ≤ b.length := by
  unfold numM
  split
  · exact Nat.le_refl _
  · rw [List.length_drop]; omega
theorem textM_len (b : List Int) (bad : Bool) : (textM b bad).2.1.length ≤ b.length := by
  have := numM_len b bad 61
  unfold textM
  split
  · exact this
  · simp only [List.length_drop]; omega
theorem placeM_len (ws : List ByteArray) (b : List Int) (bad : Bool) : (placeM ws b bad).2.1.length ≤ b.length := by
  have := numM_len b bad ws.length
  unfold placeM
  split <;> exact this
theorem someM_len {step : List Int → Bool → ByteArray × List Int × Bool} (hstep : ∀ b bad, (step b bad).2.1.length ≤ b.length) (n : Nat) : ∀ (b : List Int) (bad : Bool), (someM step n b bad).2.1.length ≤ b.length := by
  induction n with
  | zero => intro b bad; exact Nat.le_refl _
  | succ n ih =>
    intro b bad
    cases bad with
    | true => rw [someM_bad]; exact Nat.le_refl _
    | false => rw [someM, if_neg (by decide)]; exact Nat.le_trans (ih _ _) (hstep b false)

theorem numM_bad {b : List Int} {below : Int} (h : (var b).2 = 0 ∨ (var b).1 ≥ below) (bad : Bool) : numM b bad below = (0, b, true) := if_pos (.inr h)
theorem numM_ok {b : List Int} {below : Int} (h : ¬ ((var b).2 = 0 ∨ (var b).1 ≥ below)) : numM b false below = ((var b).1, b.drop (var b).2.toNat, false) := if_neg (fun h1 => h1.elim (by decide) h)
/-! ### as the reading functions of TextsT -/
theorem textM_textR {b : List Int} (hb : Bytes b) : (match textR b with | some p => textM b false = (p.1, p.2, false) | none => (textM b false).2.2 = true) := by
  have hr := var_range hb
  unfold textR
  by_cases h : (var b).2 = 0 ∨ (var b).1 > 60 ∨ (b.length : Int) - (var b).2 < (var b).1
  · rw [if_pos h]
    simp only
    unfold textM
    by_cases h1 : (var b).2 = 0 ∨ (var b).1 ≥ 61
    · rw [numM_bad h1, if_pos (.inl rfl)]
    · rw [numM_ok h1, if_pos]
      right
      rw [List.length_drop]
      omega
  · rw [if_neg h]
    simp only
    unfold textM
    rw [numM_ok (by omega), if_neg (by simp only [Bool.false_eq_true, false_or, List.length_drop]; omega)]
    simp only [List.drop_drop]
theorem someM_eachR (n : Nat) : ∀ (b : List Int), Bytes b → (match eachR b n with | some p => someM textM n b false = (p.1, p.2, false) | none => (someM textM n b false).2.2 = true) := by
  induction n with
  | zero => intro b _; rw [eachR]; rfl
  | succ n ih =>
    intro b hb
    have h1 := textM_textR hb
    rw [eachR, someM, if_neg (by decide)]
    cases ht : textR b with
    | none =>
      rw [ht] at h1
      simp only at h1
      rw [h1, someM_bad]
      rfl
    | some p =>
      rw [ht] at h1
      simp only at h1
      have hb2 : Bytes p.2 := by have := textM_bytes hb false; rw [h1] at this; exact this
      have h2 := ih p.2 hb2
      rw [h1, Option.bind_some]
      simp only
      cases he : eachR p.2 n with
      | none => rw [he] at h2; exact h2
      | some q =>
        rw [he] at h2
        simp only at h2
        rw [h2]
        rfl
theorem someM_placesR (ws : List ByteArray) (n : Nat) : ∀ (b : List Int), Bytes b → (match placesR ws b n with | some p => someM (placeM ws) n b false = (p.1, p.2, false) | none => (someM (placeM ws) n b false).2.2 = true) := by
  induction n with
  | zero => intro b _; rw [placesR]; rfl
  | succ n ih =>
    intro b hb
    have hr := var_range hb
    rw [placesR, someM]
    by_cases h : (var b).2 = 0 ∨ (var b).1 ≥ ws.length
    · have h1 : placeM ws b false = (ByteArray.empty, b, true) := by
        unfold placeM
        rw [numM_bad h, if_pos rfl]
      have h0 : ¬ (false = true) := by decide
      rw [if_pos h, if_neg h0, h1, someM_bad]
    · have h1 : placeM ws b false = (ws.getD (var b).1.toNat ByteArray.empty, b.drop (var b).2.toNat, false) := by
        unfold placeM
        rw [numM_ok h, if_neg (by simp)]
      have h2 := ih (b.drop (var b).2.toNat) (hb.drop _)
      have h0 : ¬ (false = true) := by decide
      rw [if_neg h, if_neg h0, h1]
      simp only
      cases he : placesR ws (b.drop (var b).2.toNat) n with
      | none => rw [he] at h2; exact h2
      | some q =>
        rw [he] at h2
        simp only at h2
        rw [h2]
        rfl
/-- What texts.Take reads. -/
def readP (b : List Int) : List ByteArray × List Int × Bool :=
  if ((numM b false 2001).2.1.getD 0 0) = 1 then
    someM (placeM (someM textM (numM ((numM b false 2001).2.1.drop 1) false ((numM b false 2001).1 + 1)).1.toNat (numM ((numM b false 2001).2.1.drop 1) false ((numM b false 2001).1 + 1)).2.1 (numM ((numM b false 2001).2.1.drop 1) false ((numM b false 2001).1 + 1)).2.2).1)
      (numM b false 2001).1.toNat
      (someM textM (numM ((numM b false 2001).2.1.drop 1) false ((numM b false 2001).1 + 1)).1.toNat (numM ((numM b false 2001).2.1.drop 1) false ((numM b false 2001).1 + 1)).2.1 (numM ((numM b false 2001).2.1.drop 1) false ((numM b false 2001).1 + 1)).2.2).2.1
      (someM textM (numM ((numM b false 2001).2.1.drop 1) false ((numM b false 2001).1 + 1)).1.toNat (numM ((numM b false 2001).2.1.drop 1) false ((numM b false 2001).1 + 1)).2.1 (numM ((numM b false 2001).2.1.drop 1) false ((numM b false 2001).1 + 1)).2.2).2.2
  else someM textM (numM b false 2001).1.toNat ((numM b false 2001).2.1.drop 1) false
theorem readP_takeL {b : List Int} (hb : Bytes b) (hg : ¬ ((var b).2 = 0 ∨ (var b).1 > 2000 ∨ (var b).2 ≥ b.length)) :
    (match takeL b with | some l => (readP b).1 = l ∧ (readP b).2.2 = false | none => (readP b).2.2 = true) := by
  have hr := var_range hb
  have h1 : numM b false 2001 = ((var b).1, b.drop (var b).2.toNat, false) := by
    exact numM_ok (by omega)
  have hg0 : (b.drop (var b).2.toNat).getD 0 0 = b.getD (var b).2.toNat 0 := by simp [List.getD]
  have hd : (b.drop (var b).2.toNat).drop 1 = b.drop ((var b).2.toNat + 1) := by rw [List.drop_drop]
  unfold readP takeL
  rw [h1]
  simp only
  rw [hg0, hd]
  by_cases hw : b.getD (var b).2.toNat 0 = 1
  · rw [if_pos hw, if_pos hw]
    have hb2 : Bytes (b.drop ((var b).2.toNat + 1)) := hb.drop _
    generalize b.drop ((var b).2.toNat + 1) = b2 at hb2
    have hr2 := var_range hb2
    have hi : (((var b).1.toNat : Nat) : Int) = (var b).1 := by omega
    unfold numberedR
    rw [hi]
    by_cases hn : (var b2).2 = 0 ∨ (var b2).1 > (var b).1
    · have h2 : numM b2 false ((var b).1 + 1) = (0, b2, true) := by
        exact numM_bad (by omega) _
      rw [h2, if_pos hn]
      simp only
      rw [someM_bad, someM_bad]
      rfl
    · have h2 : numM b2 false ((var b).1 + 1) = ((var b2).1, b2.drop (var b2).2.toNat, false) := by
        exact numM_ok (by omega)
      rw [h2, if_neg hn]
      simp only
      have h3 := someM_eachR (var b2).1.toNat (b2.drop (var b2).2.toNat) (hb2.drop _)
      cases he : eachR (b2.drop (var b2).2.toNat) (var b2).1.toNat with
      | none =>
        rw [he] at h3
        simp only at h3
        rw [h3, someM_bad]
        rfl
      | some p =>
        rw [he] at h3
        simp only at h3
        rw [h3, Option.bind_some]
        simp only
        have hb3 : Bytes p.2 := by have := someM_bytes (fun b bad h => textM_bytes h bad) (var b2).1.toNat (b2.drop (var b2).2.toNat) false (hb2.drop _); rw [h3] at this; exact this
        have h4 := someM_placesR p.1 (var b).1.toNat p.2 hb3
        cases hp : placesR p.1 p.2 (var b).1.toNat with
        | none => rw [hp] at h4; exact h4
        | some q => rw [hp] at h4; simp only at h4; rw [h4]; exact ⟨rfl, rfl⟩
  · rw [if_neg hw, if_neg hw]
    have h3 := someM_eachR (var b).1.toNat (b.drop ((var b).2.toNat + 1)) (hb.drop _)
    cases he : eachR (b.drop ((var b).2.toNat + 1)) (var b).1.toNat with
    | none => rw [he] at h3; exact h3
    | some p => rw [he] at h3; simp only at h3; rw [h3]; exact ⟨rfl, rfl⟩

end Go.Proofs.Ytnecipeckamiiaa.RdM

/- HoldS: Rows of bytes and texts in memory: what a walk over texts wants beside Hold. -/
namespace Go.Proofs.Ytnecipeckamiiaa.HoldS
open Go.RowKit Go.Proofs.YtnecipeckamiiaaW.PrintWords Go.Proofs.YtnecipeckamiiaaW.PrintLast Go.Proofs.YtnecipeckamiiaaW.PrintMore Go.Proofs.Ytnecipeckamiiaa.Bits Go.Proofs.Ytnecipeckamiiaa.Hold
set_option linter.unusedVariables false
section
variable {P : Program} {ops : Array Oper} {o : Oper} {a : Act} {rest : List Oper} {Q : Exit → Act → World → Prop}
/-- append(v, y...), y a text; behind 'at_builtin'. -/
theorem appendStr {w0 W : World} (hgd : o.guard = none) (s x : Operand) (t u e : TypeId)
    (ho : o.op = .call { callee := .builtin .append, args := #[s, x], argTypes := #[t, u] })
    (ht : P.underlying t = some (.slice e)) (hu : P.underlying u = some .string) (hinfo : (P.info? e).map (fun i => (i.zero, i.size, i.bytes)) = some (some (.int .u8 0), 1, 1))
    (v : Value) (xs : List Int) (y : ByteArray) (hs : a.eval s = v) (hx : a.eval x = .string y)
    (HO : Kd.R (Kd.int .u8) e W w0.heap.size (fun _ => True) v xs) (HB : Below w0.heap.size w0 W) (hl : xs.length + y.size ≤ 140737488355328)
    (h : ∀ v1 w1, Kd.R (Kd.int .u8) e w1 w0.heap.size (fun _ => True) v1 (xs ++ bytesOf y) → Below w0.heap.size w0 w1 → wpList P ops Q rest (a.put o.dst v1) w1) :
    wpList P ops Q (o :: rest) a W :=
  print_append_str (w0 := w0) w0.heap.size hgd s x t u e ho ht hu hinfo v xs y hs hx (Kd.own_of_R HO) HB HB.size hl (fun v1 w1 hr hb _ => h v1 w1 (Kd.R_of_own hr (fun _ _ => trivial)) hb)
/-- The same two, where a region draws its order. -/
theorem appendStr_step {K : Act → World → Prop} {w0 W : World} (hw : Region.wanted o (yielded ops a.tmps) = true) (s x : Operand) (t u e : TypeId)
    (ho : o.op = .call { callee := .builtin .append, args := #[s, x], argTypes := #[t, u] })
    (ht : P.underlying t = some (.slice e)) (hu : P.underlying u = some .string) (hinfo : (P.info? e).map (fun i => (i.zero, i.size, i.bytes)) = some (some (.int .u8 0), 1, 1))
    (v : Value) (xs : List Int) (y : ByteArray) (hs : a.eval s = v) (hx : a.eval x = .string y)
    (HO : Kd.R (Kd.int .u8) e W w0.heap.size (fun _ => True) v xs) (HB : Below w0.heap.size w0 W) (hl : xs.length + y.size ≤ 140737488355328)
    (h : ∀ v1 w1, Kd.R (Kd.int .u8) e w1 w0.heap.size (fun _ => True) v1 (xs ++ bytesOf y) → Below w0.heap.size w0 w1 → K (a.put o.dst v1) w1) :
    if Region.wanted o (yielded ops a.tmps) = true then Oper.wp P o a W K Q else K (a.put o.dst undef) W := by
  rw [if_pos hw]
  obtain ⟨i0, hi, hzz⟩ := Option.map_eq_some_iff.1 hinfo
  simp only [Prod.mk.injEq] at hzz
  obtain ⟨hz0, hz1, hz2⟩ := hzz
  have HO' := Kd.own_of_R HO
  obtain ⟨v1, w1, hr, hown, hg, _⟩ := Lib.run_append_own_string (P := P) W w0.heap.size t u o.type e i0 ht hu hi hz0 hz1 hz2 v xs.length (nums .u8 xs) HO' y (by simp only [maxLen]; omega) hl HB.size
  unfold Oper.wp execOp
  simp only [ho, resolve, invoke, builtin, Sem.run_bind, Sem.run_pure, Result.andThen_ok, List.map_toArray, List.map_cons, List.map_nil, hs, hx, hr]
  have hl2 : (xs ++ bytesOf y).length = xs.length + y.size := by rw [List.length_append, bytesOf_length]
  have hc : nums .u8 (xs ++ bytesOf y) = nums .u8 xs ++ Lib.strCells y := by
    rw [nums_append]
    congr 1
    simp [nums, bytesOf, Lib.strCells]
  exact h v1 w1 (Kd.R_of_own (enc := Value.int .u8) (by rw [hl2]; show w1.ownsRow _ _ _ _ _ (nums .u8 (xs ++ bytesOf y)); rw [hc]; exact hown) (fun _ _ => trivial)) (HB.grown hg HB.size (own_base HO'))
theorem appendRow_step {K : Act → World → Prop} {k : IntKind} {w0 W : World} (hw : Region.wanted o (yielded ops a.tmps) = true) (s x : Operand) (t e : TypeId) (bytes : Nat)
    (ho : o.op = .call { callee := .builtin .append, args := #[s, x], argTypes := #[t, t] })
    (ht : P.underlying t = some (.slice e)) (hinfo : (P.info? e).map (fun i => (i.zero, i.size, i.bytes)) = some (some (.int k 0), 1, bytes)) (hb0 : 0 < bytes)
    (v : Value) (xs ys : List Int) (A : Option Addr) (m c : Nat) (hs : a.eval s = v) (hx : a.eval x = .slice A m c)
    (HO : Kd.R (Kd.int k) e W w0.heap.size (fun _ => True) v xs) (HR : Kd.C (Kd.int k) W A m ys) (HB : Below w0.heap.size w0 W) (hl : (xs.length + m) * bytes ≤ 140737488355328)
    (h : ∀ v1 w1, Kd.R (Kd.int k) e w1 w0.heap.size (fun _ => True) v1 (xs ++ ys) → Below w0.heap.size w0 w1 → K (a.put o.dst v1) w1) :
    if Region.wanted o (yielded ops a.tmps) = true then Oper.wp P o a W K Q else K (a.put o.dst undef) W :=
  Kd.R_append_rows_step (Kd.int k) (w0 := w0) w0.heap.size hw s x t e (.int k 0) bytes ho ht hinfo rfl Nat.one_pos hb0 v xs ys A m c (fun _ => True) (fun _ => False) hs hx HO HR
    (fun _ _ h => h) (fun _ h => h.elim) (fun _ _ => trivial) HB HB.size hl (fun v1 w1 hr hb _ _ => h v1 w1 hr hb)
/-- A nil row is one of the call's own. -/
theorem R_nil {k : IntKind} (e base : Nat) (w : World) : Kd.R (Kd.int k) e w base (fun _ => True) (.slice none 0 0) [] :=
  Kd.R_of_own (enc := Value.int k) (xs := []) ⟨rfl, .inl ⟨rfl, rfl⟩⟩ (fun _ h => trivial)
end
end Go.Proofs.Ytnecipeckamiiaa.HoldS

/- KWord: The key of texts.Dict's map: a struct of one text. -/
namespace Go.Proofs.Ytnecipeckamiiaa.KWord
open Go Go.RowKit Go.Maps
theorem laidOut : laidOutB Try.prog = true := by kernel_rfl
theorem law : Keyed Try.prog 39 := Keyed.of_law (deep_law_laid laidOut (m := 2) (by decide) (of_decide_eq_true (by kernel_rfl)) (by kernel_rfl) (by kernel_rfl))
theorem kt : Try.prog.keyType 39 = true := by kernel_rfl
theorem cellsW : Try.prog.cellsOf 39 = 1 := by kernel_rfl
theorem cellsS : Try.prog.cellsOf 9 = 1 := by kernel_rfl
/-- How a word reads as a key. -/
def kl (s : ByteArray) : Lit := .string (keyBytes [.string s.data.toList])
theorem formedW (s : ByteArray) : Value.formed Try.prog 39 (.agg #[.string s]) = true := by
  unfold Value.formed
  rw [Try.underlying39]
  simp only [cellsW]
  rfl
theorem keyW (s : ByteArray) (h : s.size ≤ maxLen) : keyOf Try.prog 39 (.agg #[.string s]) = some (kl s) := by
  unfold keyOf
  rw [Try.underlying39]
  simp only [kt, formedW, Bool.true_and, if_true]
  have e : Try.prog.keyLits (Try.prog.types.size + 1) 39 (Value.agg #[Value.string s]).cells.toList = (if s.size ≤ maxLen then some [Lit.string s.data.toList] else none) := by
    have hn : ∃ n, Try.prog.types.size = n + 1 := ⟨74, by kernel_rfl⟩
    obtain ⟨n, hn⟩ := hn
    rw [hn]
    show Try.prog.keyLits (n + 1 + 1) 39 [.string s] = _
    by_cases h2 : s.size ≤ maxLen
    · simp [Program.keyLits, Try.underlying39, Try.underlying9, cellsW, cellsS, h2]
    · exact absurd h h2
  rw [e, if_pos h]
  rfl
theorem kl_inj {s t : ByteArray} (hs : s.size ≤ maxLen) (ht : t.size ≤ maxLen) (h : kl s = kl t) : s = t := by
  have h1 := law.inj (keyW s hs) (by rw [keyW t ht, h])
  have h2 := congrArg Value.cells h1
  simpa [Value.cells] using h2
end Go.Proofs.Ytnecipeckamiiaa.KWord

/- CVar: The contract of Var, in plain words. -/
namespace Go.Proofs.Ytnecipeckamiiaa.CVar
open Go.RowKit Go.Proofs.Ytnecipeckamiiaa.QTextsAll Go.Proofs.YtnecipeckamiiaaW.PrintWords Go.Proofs.YtnecipeckamiiaaW.PrintLast Go.Proofs.YtnecipeckamiiaaW.PrintMore Go.Proofs.Ytnecipeckamiiaa.Num Go.Proofs.Ytnecipeckamiiaa.Bits Go.Proofs.Ytnecipeckamiiaa.VarM

theorem len_f (k p : Nat) (hp : p < 128) : bits_Len64.f k (p : Int) = some (Lib.bitLen p : Int) := by
  unfold bits_Len64.f
  rw [if_pos ⟨by omega, by omega⟩, Int.toNat_natCast]
theorem var_f (l : List Int) (hb : Bytes l) (hn : l.length < 1000000000000) : num_Var.f (2 * l.length + 1) l = some (var l) := by
  unfold num_Var.f
  have h := var_loop (l0 := num_Var.l0) (j1 := num_Var.j1) (lf := bits_Len64.f) (fun _ _ _ _ _ _ => rfl) (fun _ _ _ _ _ _ _ _ _ _ => rfl) len_f l hb hn l.length (2 * l.length + 1) 0 0 (by omega) (by omega) (by omega) (by simp)
  exact h
theorem varC (A : Option Addr) (c : Nat) (l : List Int) (w : World) (hr : Kd.C (Kd.int .u8) w A l.length l) (hc : l.length ≤ c) (hb : Bytes l) (hn : l.length < 1000000000000) :
    Calls Try.prog 31 #[.slice A l.length c] w fun e w' => e = .returned (.tuple #[.int .u64 (var l).1, .int .i64 (var l).2]) ∧ Drawn0 w w' :=
  num_Var.calls (2 * l.length + 1) A c l (var l).1 (var l).2 w hr hc (var_f l hb hn)

end Go.Proofs.Ytnecipeckamiiaa.CVar

/- CEach: The contract of texts.Each. -/
namespace Go.Proofs.Ytnecipeckamiiaa.CEach
open Go.RowKit Go.Proofs.Ytnecipeckamiiaa.QTextsAll Go.Proofs.YtnecipeckamiiaaW.PrintWords Go.Proofs.YtnecipeckamiiaaW.PrintLast Go.Proofs.YtnecipeckamiiaaW.PrintMore Go.Proofs.Ytnecipeckamiiaa.Num Go.Proofs.Ytnecipeckamiiaa.Bits Go.Proofs.Ytnecipeckamiiaa.VarM Go.Proofs.Ytnecipeckamiiaa.TextsT Go.Proofs.Ytnecipeckamiiaa.Hold Go.Proofs.Ytnecipeckamiiaa.HoldS
set_option linter.unusedVariables false
set_option linter.unusedSimpArgs false
attribute [local go_sem] max2_int min2_int max_two min_two max_three min_three max_four min_four

theorem info_u8 : (Try.prog.info? 5).map (fun i => (i.zero, i.size, i.bytes)) = some (some (.int .u8 0), 1, 1) := by kernel_rfl
theorem info_str : (Try.prog.info? 9).map (fun i => (i.zero, i.size, i.bytes)) = some (some (.string ⟨#[]⟩), 1, 16) := by kernel_rfl
theorem put_f (x : Nat) (k : Nat) (hx : x < 18446744073709551616) (hk : 10 ≤ k) : num_PutVar.f k x = some (pv x) := by
  unfold num_PutVar.f
  rw [putvar_loop (l0 := num_PutVar.l0) (fun _ _ _ => rfl) 9 x k [] (by omega) (by omega) (by simp)]
  simp
theorem putVar (x : Int) (h0 : 0 ≤ x) (h1 : x ≤ 18446744073709551615) (w : World) :
    Calls Try.prog 20 #[.int .u64 x] w fun e w' => ∃ v, e = .returned v ∧ Kd.R (Kd.int .u8) 5 w' w.heap.size (fun _ => True) v (pv x.toNat) ∧ Below w.heap.size w w' := by
  obtain ⟨n, rfl⟩ := Int.eq_ofNat_of_zero_le h0
  exact num_PutVar.calls 10 n (pv n) w (put_f n 10 (by omega) (Nat.le_refl _))
theorem each_snoc (l : List ByteArray) (i : Nat) (h : i < l.length) : each (l.take (i + 1)) = each (l.take i) ++ (pv (rdOf ByteArray.empty l i).size ++ bytesOf (rdOf ByteArray.empty l i)) := by
  have e : ∀ a b : List ByteArray, each (a ++ b) = each a ++ each b := fun a b => by
    induction a with
    | nil => rfl
    | cons s a ih => simp [each, ih]
  rw [List.take_succ_eq_append_getElem h, e]
  simp [each, rdOf, List.getD_eq_getElem?_getD, h]
theorem each_le (l : List ByteArray) (N : Nat) (h : ∀ s ∈ l, s.size ≤ N) (hN : N < 18446744073709551616) : (each l).length ≤ l.length * (N + 10) := by
  induction l with
  | nil => simp [each]
  | cons s l ih =>
    have h1 := ih (fun x hx => h x (List.mem_cons_of_mem _ hx))
    have h2 := h s List.mem_cons_self
    have h3 := pv_le10 s.size (by omega)
    rw [each, List.length_append, List.length_append, bytesOf_length, List.length_cons, Nat.succ_mul]
    omega

set_option maxHeartbeats 8000000 in
set_option maxRecDepth 100000 in
theorem eachC (A : Option Addr) (c : Nat) (l : List ByteArray) (w : World) (hr : Kd.C Kd.string w A l.length l) (hc : l.length ≤ c) (hl : l.length ≤ 2000) (hs : ∀ s ∈ l, s.size ≤ 1000) :
    Calls Try.prog 12 #[.slice A l.length c] w fun e w' => ∃ v, e = .returned v ∧ Kd.R (Kd.int .u8) 5 w' w.heap.size (fun _ => True) v (each l) ∧ Below w.heap.size w w' := by
  have HR := Aside0.mk hr
  have HS := Aside0.mk hs
  clear hr hs
  go_enter Try.func12, Try.ntmps12
  go_wp2_with (fail)
  go_loopw [3, 8] (fun v3 v8 wr => ∃ i : Nat, v8 = .int .i64 i ∧ i ≤ l.length ∧ Aside0 (Kd.R (Kd.int .u8) 5 wr w.heap.size (fun _ => True) v3 (each (l.take i))) ∧ Aside0 (Below w.heap.size w wr)) (fun _ v8 _ => l.length - (intOf v8).toNat)
  case atStart => exact ⟨0, by go_num, by omega, ⟨by simpa [each] using HoldS.R_nil _ _ _⟩, ⟨Below.refl _ _⟩⟩
  case round =>
    obtain ⟨i, rfl, hil, HO, HB⟩ := hrel
    by_cases hi : i < l.length
    · obtain ⟨ad, rfl, hcell⟩ := Kd.at_string (Kd.C_below HR.out HB.out) (i : Int) (by omega) (by omega)
      have hiI : (i : Int) < (l.length : Int) := by omega
      have hi0 : (0 : Int) ≤ (i : Int) := by omega
      obtain ⟨s, hsx⟩ : ∃ s, rdOf ByteArray.empty l (i : Int) = s := ⟨_, rfl⟩
      have hs1 : s.size ≤ 1000 := by
        rw [← hsx, rdOf, Int.toNat_natCast, List.getD_eq_getElem?_getD, List.getElem?_eq_getElem hi]
        exact HS.out _ (List.getElem_mem hi)
      have hsn := Aside0.mk (each_snoc l i hi)
      rw [hsx] at hcell hsn
      rw [Int.toNat_natCast] at hcell
      clear hsx
      have hEl : (each (l.take i)).length ≤ 2020000 := by
        have := each_le (l.take i) 1000 (fun x hx => HS.out x (List.mem_of_mem_take hx)) (by decide)
        have h2 : (l.take i).length ≤ 2000 := by rw [List.length_take]; omega
        have h3 := Nat.mul_le_mul_right (1000 + 10) h2
        omega
      have hEl2 := Aside0.mk hEl
      have hpl := Aside0.mk (pv_le10 s.size (by omega))
      have hwr : wrap64 ((i : Int) + 1) = ((i + 1 : Nat) : Int) := by rw [wrap64_id (by omega) (by omega)]; rfl
      have hwu : IntKind.u64.wrap (s.size : Int) = (s.size : Int) := wrap_u64_id (by omega) (by omega)
      generalize each (l.take i) = E at HO hsn hEl2
      clear hEl
      go_wp2_with (fail)
      refine (putVar (s.size : Int) (by omega) (by omega) _).mono ?_; rintro e w1 ⟨v, rfl, ho, hb⟩
      rw [Int.toNat_natCast] at ho
      obtain ⟨Ap, cp, rfl, lp, ho⟩ := R_C ho
      have HP := Aside0.mk ho
      replace HO := Aside0.mk (Kd.R_below HO.out hb)
      replace HB := Aside0.mk (below_step HB.out hb)
      clear ho hb hcell hwu
      generalize pv s.size = P at HP lp hpl hsn ⊢
      go_wp2_with (first
        | (at_builtin; refine appendRow (k := .u8) (w0 := w) rfl (.tmp 12) (.tmp 16) 25 5 1 rfl Try.underlying25 info_u8 (by decide) _ E P Ap P.length cp rfl rfl HO.out HP.out HB.out (by have := hEl2.out; have := hpl.out; omega) ?_; intro v2 w2 ho2 hb2; have HO2 := Aside0.mk ho2; have HB2 := Aside0.mk hb2; clear ho2 hb2)
        | (at_builtin; refine appendStr (w0 := w) rfl (.tmp 17) (.tmp 18) 25 9 5 rfl Try.underlying25 Try.underlying9 info_u8 _ (E ++ P) s rfl rfl HO2.out HB2.out (by have := hEl2.out; have := hpl.out; rw [List.length_append]; omega) ?_; intro v3 w3 ho3 hb3; have HO3 := Aside0.mk ho3; have HB3 := Aside0.mk hb3; clear ho3 hb3))
      go_roundw
      case rel => exact ⟨i + 1, by go_num, by omega, ⟨by rw [hsn.out, ← List.append_assoc]; exact HO3.out⟩, HB3⟩
      case measure => clear hwr; simp [intOf]; omega
    · obtain rfl : i = l.length := by omega
      have hT := HO.out
      rw [List.take_of_length_le (Nat.le_refl _)] at hT
      have HT := Aside0.mk hT
      clear hT HO
      go_wp2_with (fail)
      go_ret
      exact ⟨_, rfl, HT.out, HB.out⟩

end Go.Proofs.Ytnecipeckamiiaa.CEach

/- KDict: The map of texts.Dict, read as the words that it holds; and what the walk carries from round to round. -/
namespace Go.Proofs.Ytnecipeckamiiaa.KDict
open Go Go.RowKit Go.Maps Go.Proofs.Ytnecipeckamiiaa.KWord Go.Proofs.YtnecipeckamiiaaW.PrintWords Go.Proofs.YtnecipeckamiiaaW.PrintMore Go.Proofs.Ytnecipeckamiiaa.Num Go.Proofs.Ytnecipeckamiiaa.Bits Go.Proofs.Ytnecipeckamiiaa.VarM Go.Proofs.Ytnecipeckamiiaa.TextsT Go.Proofs.Ytnecipeckamiiaa.Hold Go.Proofs.Ytnecipeckamiiaa.HoldS Go.Proofs.Ytnecipeckamiiaa.CEach
set_option linter.unusedVariables false

/-! ### the map, as its words -/
def MapOf (acc : List ByteArray) (D : DataW Unit) : Prop :=
  IsMap D ∧ ∀ s : ByteArray, s.size ≤ maxLen → Maps.has D (kl s) = decide (s ∈ acc) ∧ (s ∈ acc → D.atKey (kl s) (.lit (.int .i64 0)) = .lit (.int .i64 (acc.idxOf s : Int)))
theorem mapOf_nil : MapOf [] (.map []) := ⟨isMap_empty, fun s _ => ⟨by simp [Maps.has], fun h => by cases h⟩⟩
theorem mapOf_snoc {acc : List ByteArray} {D : DataW Unit} (h : MapOf acc D) (s : ByteArray) (hs : s.size ≤ maxLen) (hn : s ∉ acc) : MapOf (acc ++ [s]) (D.put (kl s) (.lit (.int .i64 (acc.length : Int)))) := by
  refine ⟨h.1.put _ _, fun t ht => ?_⟩
  by_cases e : t = s
  · subst e
    refine ⟨by rw [has_put_same h.1 (show WideAt.IsKeyLit (kl t) from trivial)]; simp, fun _ => ?_⟩
    rw [atKey_put_same h.1 (show WideAt.IsKeyLit (kl t) from trivial), List.idxOf_append, if_neg hn]
    simp
  · have hne : kl t ≠ kl s := fun h0 => e (kl_inj ht hs h0)
    obtain ⟨h1, h2⟩ := h.2 t ht
    refine ⟨by rw [has_put_other hne, h1]; simp [e], fun hm => ?_⟩
    have hm' : t ∈ acc := by
      rcases List.mem_append.1 hm with hm | hm
      · exact hm
      · exact absurd (List.mem_singleton.1 hm) e
    rw [atKey_put_other hne, h2 hm', List.idxOf_append, if_pos hm']
/-- Block b is the map of these words. -/
structure OwnsWords (w : World) (b : Nat) (acc : List ByteArray) : Prop where
  mk :: (out : ∃ D : DataW Unit, MapOf acc D ∧ w.ownsMap Try.prog 39 (plainElem Try.prog 3) b acc.length D)
theorem OwnsWords.made (w : World) : OwnsWords (w.alloc (.map #[] 0)) w.heap.size [] := ⟨_, mapOf_nil, World.ownsMap_made _ _ _ _⟩
theorem OwnsWords.kept {w w' : World} {b : Nat} {acc : List ByteArray} {row : Option Nat} (h : OwnsWords w b acc) (hg : w.grownBy w' row) (hne : some b ≠ row) : OwnsWords w' b acc := by
  obtain ⟨D, h1, h2⟩ := h.out
  exact ⟨D, h1, h2.kept hg hne⟩
theorem OwnsWords.apart {w : World} {b : Nat} {acc : List ByteArray} {base n : Nat} {e : TypeId} {size : Nat} {v : Value} {xs : List Value} (h : OwnsWords w b acc) (ho : w.ownsRow base e size v n xs) : some b ≠ v.ownBlock := by
  obtain ⟨D, _, es, clock, hb, _⟩ := h.out
  intro hk
  obtain ⟨cells, hc⟩ := own_typed ho b hk.symm
  rw [hb] at hc
  cases hc
theorem zeroInt (w : World) : (zeroValue 3).run Try.prog w = .ok (.int .i64 0) w := by kernel_rfl
section
variable {ops : Array Oper} {rest : List Oper} {o : Oper} {a : Act} {Q : Exit → Act → World → Prop} {W : World}
/-- 'v, ok := m[k]'. -/
theorem lookOk (hgd : o.guard = none) (m x : Operand) (hop : o.op = Op.lookup 37 m x true) (b : Nat) (acc : List ByteArray) (hm : a.eval m = .map (some b)) (HO : OwnsWords W b acc)
    (s : ByteArray) (hs : s.size ≤ maxLen) (hx : a.eval x = .agg #[.string s]) (h : ∀ c : Int, wpList Try.prog ops Q rest (a.put o.dst (.tuple #[.int .i64 c, .bool (decide (s ∈ acc))])) W) : wpList Try.prog ops Q (o :: rest) a W := by
  obtain ⟨D, h1, h2⟩ := HO.out
  refine wpList_lookup_own_ok_int W hgd m x 37 hop 39 3 .i64 law Try.underlying37 Try.underlying3 (zeroInt W) b acc.length D hm h2 _ (kl s) hx (keyW s hs) ?_
  intro c _ _
  rw [(h1.2 s hs).1]
  exact h c
/-- 'm[k]', k a word that is there. -/
theorem lookIn (hgd : o.guard = none) (m x : Operand) (hop : o.op = Op.lookup 37 m x false) (b : Nat) (acc : List ByteArray) (hm : a.eval m = .map (some b)) (HO : OwnsWords W b acc)
    (s : ByteArray) (hs : s.size ≤ maxLen) (hin : s ∈ acc) (hx : a.eval x = .agg #[.string s]) (h : wpList Try.prog ops Q rest (a.put o.dst (.int .i64 (acc.idxOf s : Int))) W) : wpList Try.prog ops Q (o :: rest) a W := by
  obtain ⟨D, h1, h2⟩ := HO.out
  refine wpList_lookup_own_int W hgd m x 37 hop 39 3 .i64 law Try.underlying37 Try.underlying3 (zeroInt W) b acc.length D hm h2 _ (kl s) hx (keyW s hs) ?_
  intro c hc _
  rw [(h1.2 s hs).2 hin] at hc
  injection hc with hc
  injection hc with _ hc
  subst hc
  exact h
/-- 'm[k] = len(words)', k a word that is not there. -/
theorem storeNew (hgd : o.guard = none) (m x v : Operand) (hop : o.op = Op.mapUpdate 37 m x v) (b : Nat) (acc : List ByteArray) (hm : a.eval m = .map (some b)) (HO : OwnsWords W b acc)
    (s : ByteArray) (hs : s.size ≤ maxLen) (hin : s ∉ acc) (hx : a.eval x = .agg #[.string s]) (hv : a.eval v = .int .i64 (acc.length : Int)) (hn : acc.length ≤ 1000000)
    (h : ∀ w', OwnsWords w' b (acc ++ [s]) → W.grownBy w' (some b) → wpList Try.prog ops Q rest (a.put o.dst undef) w') : wpList Try.prog ops Q (o :: rest) a W := by
  obtain ⟨D, h1, h2⟩ := HO.out
  refine wpList_mapUpdate_own W hgd m x v 37 hop 39 3 law Try.underlying37 (plainElem Try.prog 3) b acc.length D hm h2 (by unfold maxLen; omega) _ _ (kl s) hx hv (keyW s hs)
    (.lit (.int .i64 (acc.length : Int))) [] (plainElem_int Try.underlying3 (WalkArith.wf_i64 (by omega))) ?_
  intro w' h3 h4
  exact h w' ⟨_, mapOf_snoc h1 s hs hin, by rw [List.length_append]; exact h3⟩ h4
/-- append(v, s), v a row of texts of the call's own; behind 'at_builtin'. -/
theorem appendOneS {w0 W : World} (hgd : o.guard = none) (s x : Operand)
    (ho : o.op = .call { callee := .builtin .append, args := #[s, x], argTypes := #[22, 22] })
    (v : Value) (xs : List ByteArray) (y : ByteArray) (hs : a.eval s = v) (hx : a.eval x = .slice (some ⟨W.heap.size, 0, none⟩) 1 1)
    (HO : Kd.R Kd.string 9 W w0.heap.size (fun _ => True) v xs) (HB : Below w0.heap.size w0 W) (hl : (xs.length + 1) * 16 ≤ 140737488355328)
    (h : ∀ v1 w1, Kd.R Kd.string 9 w1 w0.heap.size (fun _ => True) v1 (xs ++ [y]) → Below w0.heap.size w0 w1 → W.grownBy w1 v.ownBlock → wpList Try.prog ops Q rest (a.put o.dst v1) w1) :
    wpList Try.prog ops Q (o :: rest) a (W.alloc (.cells #[.string y] 9)) :=
  Kd.R_append Kd.string (w0 := w0) w0.heap.size hgd s x 22 9 (.string ⟨#[]⟩) 16 ho Try.underlying22 info_str rfl Nat.one_pos (by decide) v xs y [.string y] (fun _ => True) (fun _ => False) hs hx rfl
    (fun _ h => h.elim) (fun _ _ => trivial) HO HB HB.size hl (fun v1 w1 hr hb hg _ => h v1 w1 hr hb hg)
/-- append(v, ys...), told with the row that was written. -/
theorem appendRowG {k : IntKind} {P : Program} {w0 W : World} (hgd : o.guard = none) (s x : Operand) (t e : TypeId) (bytes : Nat)
    (ho : o.op = .call { callee := .builtin .append, args := #[s, x], argTypes := #[t, t] })
    (ht : P.underlying t = some (.slice e)) (hinfo : (P.info? e).map (fun i => (i.zero, i.size, i.bytes)) = some (some (.int k 0), 1, bytes)) (hb0 : 0 < bytes)
    (v : Value) (xs ys : List Int) (A : Option Addr) (m c : Nat) (hs : a.eval s = v) (hx : a.eval x = .slice A m c)
    (HO : Kd.R (Kd.int k) e W w0.heap.size (fun _ => True) v xs) (HR : Kd.C (Kd.int k) W A m ys) (HB : Below w0.heap.size w0 W) (hl : (xs.length + m) * bytes ≤ 140737488355328)
    (h : ∀ v1 w1, Kd.R (Kd.int k) e w1 w0.heap.size (fun _ => True) v1 (xs ++ ys) → Below w0.heap.size w0 w1 → W.grownBy w1 v.ownBlock → wpList P ops Q rest (a.put o.dst v1) w1) :
    wpList P ops Q (o :: rest) a W :=
  Kd.R_append_rows (Kd.int k) (w0 := w0) w0.heap.size hgd s x t e (.int k 0) bytes ho ht hinfo rfl Nat.one_pos hb0 v xs ys A m c (fun _ => True) (fun _ => False) hs hx HO HR
    (fun _ _ h => h) (fun _ h => h.elim) (fun _ _ => trivial) HB HB.size hl (fun v1 w1 hr hb hg _ => h v1 w1 hr hb hg)
/-- append(v, x), told with the row that was written. -/
theorem appendOneG {k : IntKind} {P : Program} {w0 W : World} (hgd : o.guard = none) (s x : Operand) (t e : TypeId) (bytes : Nat)
    (ho : o.op = .call { callee := .builtin .append, args := #[s, x], argTypes := #[t, t] })
    (ht : P.underlying t = some (.slice e)) (hinfo : (P.info? e).map (fun i => (i.zero, i.size, i.bytes)) = some (some (.int k 0), 1, bytes)) (hb0 : 0 < bytes)
    (v : Value) (xs : List Int) (y : Int) (hs : a.eval s = v) (hx : a.eval x = .slice (some ⟨W.heap.size, 0, none⟩) 1 1)
    (HO : Kd.R (Kd.int k) e W w0.heap.size (fun _ => True) v xs) (HB : Below w0.heap.size w0 W) (hl : (xs.length + 1) * bytes ≤ 140737488355328)
    (h : ∀ v1 w1, Kd.R (Kd.int k) e w1 w0.heap.size (fun _ => True) v1 (xs ++ [y]) → Below w0.heap.size w0 w1 → W.grownBy w1 v.ownBlock → (v1.ownBlock = v.ownBlock ∨ ∃ b, v1.ownBlock = some b ∧ W.heap.size ≤ b) → wpList P ops Q rest (a.put o.dst v1) w1) :
    wpList P ops Q (o :: rest) a (W.alloc (.cells #[.int k y] e)) :=
  Kd.R_append (Kd.int k) (w0 := w0) w0.heap.size hgd s x t e (.int k 0) bytes ho ht hinfo rfl Nat.one_pos hb0 v xs y [.int k y] (fun _ => True) (fun _ => False) hs hx rfl
    (fun _ h => h.elim) (fun _ _ => trivial) HO HB HB.size hl (fun v1 w1 hr hb hg hat => h v1 w1 hr hb hg hat)
end
/-- A row that was made behind another one: the other one's append leaves it. -/
theorem C_after {k : IntKind} {e : Nat} {W w1 w2 : World} {A : Option Addr} {c : Nat} {xs : List Int} {v : Value} (h : Kd.R (Kd.int k) e w1 W.heap.size (fun _ => True) (.slice A xs.length c) xs) (hv : ∀ j, v.ownBlock = some j → j < W.heap.size) (hg : w1.grownBy w2 v.ownBlock) : Kd.C (Kd.int k) w2 A xs.length xs :=
  (Kd.R_reads' (Kd.R_grown2 h rfl hg (fun j hj e_ => by
    have h1 := hv j hj
    have h2 := Kd.R_base h j e_.symm
    omega))).2.2
theorem R_nilS (base : Nat) (w : World) : Kd.R Kd.string 9 w base (fun _ => True) (.slice none 0 0) [] :=
  Kd.R_of_own (enc := Value.string) (xs := []) ⟨rfl, .inl ⟨rfl, rfl⟩⟩ (fun _ h => trivial)

/-! ### the rounds -/
/-- What the walk carries: the words, where they stand, the map. -/
structure DInv (w0 wr : World) (v4 v5 : Value) (acc : List ByteArray) (ps : List Int) (macc : List ByteArray) : Prop where
  below : Below w0.heap.size w0 wr
  ws : Kd.R Kd.string 9 wr w0.heap.size (fun _ => True) v4 acc
  ps : Kd.R (Kd.int .u8) 5 wr w0.heap.size (fun _ => True) v5 ps
  map : OwnsWords wr w0.heap.size macc
section
variable {w0 wr w1 : World} {v4 v5 : Value} {acc macc : List ByteArray} {ps : List Int}
theorem DInv.start (w : World) : DInv w (w.alloc (.map #[] 0)) (.slice none 0 0) (.slice none 0 0) [] [] [] := ⟨below_alloc (Below.refl _ _) _, R_nilS _ _, HoldS.R_nil _ _ _, .made w⟩
theorem DInv.step (h : DInv w0 wr v4 v5 acc ps macc) (hb : Below wr.heap.size wr w1) : DInv w0 w1 v4 v5 acc ps macc :=
  ⟨below_step h.below hb, Kd.R_below h.ws hb, Kd.R_below h.ps hb, h.map.kept (grown_of_below hb none) (by simp)⟩
theorem DInv.alloc (h : DInv w0 wr v4 v5 acc ps macc) (o : Obj) : DInv w0 (wr.alloc o) v4 v5 acc ps macc := h.step (below_alloc (Below.refl _ _) _)
theorem DInv.stored (h : DInv w0 wr v4 v5 acc ps macc) {m' : List ByteArray} (hm : OwnsWords w1 w0.heap.size m') (hg : wr.grownBy w1 (some w0.heap.size)) : DInv w0 w1 v4 v5 acc ps m' :=
  ⟨h.below.grown hg h.below.size (fun k hk => by injection hk with hk; omega), Kd.R_grown2 h.ws rfl hg (fun k hk => by injection hk with hk; subst hk; exact h.map.apart (Kd.own_of_R h.ws)),
    Kd.R_grown2 h.ps rfl hg (fun k hk => by injection hk with hk; subst hk; exact h.map.apart (Kd.own_of_R h.ps)), hm⟩
theorem DInv.word (h : DInv w0 wr v4 v5 acc ps macc) {v : Value} {acc' : List ByteArray} (hr : Kd.R Kd.string 9 w1 w0.heap.size (fun _ => True) v acc') (hb : Below w0.heap.size w0 w1) (hg : wr.grownBy w1 v4.ownBlock) : DInv w0 w1 v v5 acc' ps macc :=
  ⟨hb, hr, Kd.R_grown2 h.ps rfl hg (fun k hk => by
    have h1 := own_type_ne (Kd.own_of_R h.ws) (Kd.own_of_R h.ps) (by decide)
    rw [← hk]
    rcases h1 with h1 | h1
    · rw [h1] at hk; cases hk
    · exact h1), h.map.kept hg (h.map.apart (Kd.own_of_R h.ws))⟩
theorem DInv.where_ (h : DInv w0 wr v4 v5 acc ps macc) {v : Value} {ps' : List Int} (hr : Kd.R (Kd.int .u8) 5 w1 w0.heap.size (fun _ => True) v ps') (hb : Below w0.heap.size w0 w1) (hg : wr.grownBy w1 v5.ownBlock) : DInv w0 w1 v4 v acc ps' macc :=
  ⟨hb, Kd.R_grown2 h.ws rfl hg (fun k hk => by
    have h1 := own_type_ne (Kd.own_of_R h.ps) (Kd.own_of_R h.ws) (by decide)
    rw [← hk]
    rcases h1 with h1 | h1
    · rw [h1] at hk; cases hk
    · exact h1), hr, h.map.kept hg (h.map.apart (Kd.own_of_R h.ps))⟩
end
/-- The same without a map. -/
structure WInv (w0 wr : World) (v4 v5 : Value) (acc : List ByteArray) (ps : List Int) : Prop where
  below : Below w0.heap.size w0 wr
  ws : Kd.R Kd.string 9 wr w0.heap.size (fun _ => True) v4 acc
  ps : Kd.R (Kd.int .u8) 5 wr w0.heap.size (fun _ => True) v5 ps
theorem R_emptyS (w : World) : Kd.R Kd.string 9 (w.alloc (.cells #[] 9)) w.heap.size (fun _ => True) (.slice (some ⟨w.heap.size, 0, none⟩) 0 0) [] := by
  have h := World.ownsRow_lit (base := w.heap.size) (e := 9) (size := 1) w #[] 0 (Nat.le_refl _) (by simp) (by simp)
  exact ⟨fun _ _ => trivial, [], h, ⟨by simp, fun j p hj => by simp at hj⟩⟩
section
variable {w0 wr w1 : World} {v4 v5 : Value} {acc macc : List ByteArray} {ps : List Int}
theorem WInv.step (h : WInv w0 wr v4 v5 acc ps) (hb : Below wr.heap.size wr w1) : WInv w0 w1 v4 v5 acc ps := ⟨below_step h.below hb, Kd.R_below h.ws hb, Kd.R_below h.ps hb⟩
theorem WInv.start (w : World) : WInv w ((w.alloc (.cells #[] 9)).alloc (.cells #[] 5)) (.slice (some ⟨w.heap.size, 0, none⟩) 0 0) (.slice (some ⟨w.heap.size + 1, 0, none⟩) 0 0) [] [] := by
  have hb := below_alloc (Below.refl w.heap.size w) (.cells #[] 9)
  have h2 := R_empty 5 (k := .u8) (w.alloc (.cells #[] 9))
  rw [show (w.alloc (.cells #[] 9)).heap.size = w.heap.size + 1 from by simp] at h2
  exact ⟨below_alloc hb _, Kd.R_alloc (R_emptyS w) _, Kd.R_lower h2 (by omega)⟩
theorem WInv.word (h : WInv w0 wr v4 v5 acc ps) {v : Value} {acc' : List ByteArray} (hr : Kd.R Kd.string 9 w1 w0.heap.size (fun _ => True) v acc') (hb : Below w0.heap.size w0 w1) (hg : wr.grownBy w1 v4.ownBlock) : WInv w0 w1 v v5 acc' ps :=
  ⟨hb, hr, Kd.R_grown2 h.ps rfl hg (fun k hk => by
    have h1 := own_type_ne (Kd.own_of_R h.ws) (Kd.own_of_R h.ps) (by decide)
    rw [← hk]
    rcases h1 with h1 | h1
    · rw [h1] at hk; cases hk
    · exact h1)⟩
theorem WInv.where_ (h : WInv w0 wr v4 v5 acc ps) {v : Value} {ps' : List Int} (hr : Kd.R (Kd.int .u8) 5 w1 w0.heap.size (fun _ => True) v ps') (hb : Below w0.heap.size w0 w1) (hg : wr.grownBy w1 v5.ownBlock) : WInv w0 w1 v4 v acc ps' :=
  ⟨hb, Kd.R_grown2 h.ws rfl hg (fun k hk => by
    have h1 := own_type_ne (Kd.own_of_R h.ps) (Kd.own_of_R h.ws) (by decide)
    rw [← hk]
    rcases h1 with h1 | h1
    · rw [h1] at hk; cases hk
    · exact h1), hr⟩
end
theorem box_kept {W w1 : World} {row : Option Nat} {g : Nat} {o : Obj} (h : W.heap[g]? = some o) (hg : W.grownBy w1 row) (hne : some g ≠ row) : w1.heap[g]? = some o :=
  (hg.block g (Array.getElem?_eq_some_iff.1 h).1 hne).trans h
theorem box_cell {W : World} {g : Nat} {v : Value} {t : TypeId} (h : W.heap[g]? = some (.cells #[v] t (0, 0))) : W.cell? ⟨g, 0, none⟩ = some v := by
  rw [cell_of_row W g 0 _ t (0, 0) h]
  rfl
theorem OwnsWords.lt {w : World} {b : Nat} {acc : List ByteArray} (h : OwnsWords w b acc) : b < w.heap.size := by
  obtain ⟨D, _, h2⟩ := h.out
  exact h2.lt
theorem words_snoc (a : List ByteArray) (s : ByteArray) : ∀ acc, words acc (a ++ [s]) = more (words acc a) s := by
  induction a with
  | nil => intro acc; rfl
  | cons t a ih => intro acc; exact ih _
theorem wheres_snoc (a : List ByteArray) (s : ByteArray) : ∀ acc, wheres acc (a ++ [s]) = wheres acc a ++ pv ((words acc a).idxOf s) := by
  induction a with
  | nil => intro acc; simp [wheres, words]
  | cons t a ih => intro acc; rw [List.cons_append, wheres, ih, wheres, words, List.append_assoc]
theorem take_snoc (l : List ByteArray) (i : Nat) (h : i < l.length) : l.take (i + 1) = l.take i ++ [rdOf ByteArray.empty l i] := by
  rw [List.take_succ_eq_append_getElem h]
  simp [rdOf, List.getD_eq_getElem?_getD, h]
theorem wheres_le (l : List ByteArray) : ∀ acc, acc.length + l.length < 18446744073709551616 → (wheres acc l).length ≤ l.length * 10 := by
  induction l with
  | nil => intro acc _; simp [wheres]
  | cons s l ih =>
    intro acc h
    rw [List.length_cons] at h
    have hm : (more acc s).length ≤ acc.length + 1 := by unfold more; split <;> simp
    have h1 := ih (more acc s) (by omega)
    have h2 : acc.idxOf s ≤ acc.length := List.idxOf_le_length
    have h3 := pv_le10 (acc.idxOf s) (by omega)
    rw [wheres, List.length_append, List.length_cons, Nat.succ_mul]
    omega
end Go.Proofs.Ytnecipeckamiiaa.KDict

/- CDict: The contract of texts.Dict. -/
namespace Go.Proofs.Ytnecipeckamiiaa.CDict
open Go.RowKit Go.Proofs.Ytnecipeckamiiaa.QTextsAll Go.Proofs.YtnecipeckamiiaaW.PrintWords Go.Proofs.YtnecipeckamiiaaW.PrintLast Go.Proofs.YtnecipeckamiiaaW.PrintMore Go.Proofs.Ytnecipeckamiiaa.Num Go.Proofs.Ytnecipeckamiiaa.Bits Go.Proofs.Ytnecipeckamiiaa.VarM Go.Proofs.Ytnecipeckamiiaa.TextsT Go.Proofs.Ytnecipeckamiiaa.Hold Go.Proofs.Ytnecipeckamiiaa.HoldS Go.Proofs.Ytnecipeckamiiaa.CEach Go.Proofs.Ytnecipeckamiiaa.KDict
set_option linter.unusedVariables false
set_option linter.unusedSimpArgs false
attribute [local go_sem] max2_int min2_int max_two min_two max_three min_three max_four min_four

set_option maxHeartbeats 8000000 in
set_option maxRecDepth 100000 in
theorem dictC (A : Option Addr) (c : Nat) (l : List ByteArray) (w : World) (hr : Kd.C Kd.string w A l.length l) (hc : l.length ≤ c) (hl : l.length ≤ 2000) (hs : ∀ s ∈ l, s.size ≤ 1000) :
    Calls Try.prog 11 #[.slice A l.length c] w fun e w' => ∃ v, e = .returned v ∧ Kd.R (Kd.int .u8) 5 w' w.heap.size (fun _ => True) v (dict l) ∧ Below w.heap.size w w' := by
  have HR := Aside0.mk hr
  have HS := Aside0.mk hs
  clear hr hs
  have hmm := @run_makeMap Try.prog
  go_enter Try.func11, Try.ntmps11
  go_wp2_with (fail)
  go_loopw [4, 5, 14] (fun v4 v5 v14 wr => ∃ i : Nat, v14 = .int .i64 i ∧ i ≤ l.length ∧ Aside0 (DInv w wr v4 v5 (words [] (l.take i)) (wheres [] (l.take i)) (words [] (l.take i)))) (fun _ _ v14 _ => l.length - (intOf v14).toNat)
  case atStart => exact ⟨0, by go_num, by omega, ⟨DInv.start w⟩⟩
  case round =>
    obtain ⟨i, rfl, hil, HD⟩ := hrel
    have hal := words_length (l.take i) []
    have hpl0 := wheres_le (l.take i) [] (by rw [List.length_take, List.length_nil]; omega)
    have htk : (l.take i).length = i := by rw [List.length_take]; omega
    rw [htk] at hal hpl0
    rw [List.length_nil, Nat.zero_add] at hal
    clear htk
    by_cases hi : i < l.length
    · obtain ⟨ad, rfl, hcell⟩ := Kd.at_string (Kd.C_below HR.out HD.out.below) (i : Int) (by omega) (by omega)
      have hiI : (i : Int) < (l.length : Int) := by omega
      have hi0 : (0 : Int) ≤ (i : Int) := by omega
      obtain ⟨s, hsx⟩ : ∃ s, rdOf ByteArray.empty l (i : Int) = s := ⟨_, rfl⟩
      have hs1 : s.size ≤ 1000 := by
        rw [← hsx, rdOf, Int.toNat_natCast, List.getD_eq_getElem?_getD, List.getElem?_eq_getElem hi]
        exact HS.out _ (List.getElem_mem hi)
      have hsn := Aside0.mk (take_snoc l i hi)
      rw [hsx] at hcell hsn
      rw [Int.toNat_natCast] at hcell
      clear hsx
      have hwn := words_snoc (l.take i) s []
      have hpn := wheres_snoc (l.take i) s []
      rw [← hsn.out] at hwn hpn
      clear hsn
      generalize wheres [] (l.take i) = ps at HD hpn hpl0
      generalize words [] (l.take i) = acc at HD hwn hpn hal
      have HPN := Aside0.mk hpn
      have HWN := Aside0.mk hwn
      clear hpn hwn
      have hwr : wrap64 ((i : Int) + 1) = ((i + 1 : Nat) : Int) := by rw [wrap64_id (by omega) (by omega)]; rfl
      have HX := Aside0.mk (show acc.idxOf s ≤ acc.length from List.idxOf_le_length)
      have hwu : IntKind.u64.wrap ((acc.idxOf s : Nat) : Int) = ((acc.idxOf s : Nat) : Int) := wrap_u64_id (by omega) (by have := HX.out; omega)
      have HAL := Aside0.mk hal
      have HPL := Aside0.mk hpl0
      clear hal hpl0
      have HD0 := HD
      replace HD := Aside0.mk (HD.out.alloc (.cells #[.string s] 39))
      by_cases hin : s ∈ acc
      · have hd1 : decide (s ∈ acc) = true := decide_eq_true hin
        go_wp2_with (first
          | (at_lookup; refine lookOk rfl (.tmp 21) (.tmp 22) rfl w.heap.size acc rfl HD.out.map s (by unfold maxLen; omega) rfl ?_; intro cc)
          | (at_lookup; refine lookIn rfl (.tmp 37) (.tmp 38) rfl w.heap.size acc rfl HD.out.map s (by unfold maxLen; omega) hin rfl ?_))
        refine (putVar ((acc.idxOf s : Nat) : Int) (by omega) (by have := HX.out; have := HAL.out; omega) _).mono ?_; rintro e w1 ⟨v, rfl, ho, hb⟩
        rw [Int.toNat_natCast] at ho
        obtain ⟨Ap, cp, rfl, lp, ho⟩ := R_C ho
        have HP := Aside0.mk ho
        replace HD := Aside0.mk (HD.out.step hb)
        have hpp := Aside0.mk (pv_le10 (acc.idxOf s) (by have := HX.out; have := HAL.out; omega))
        clear ho hb hcell hwu
        generalize pv (acc.idxOf s) = P at HP lp hpp HPN
        go_wp2_with (first
          | (at_builtin; refine appendRowG (k := .u8) (w0 := w) rfl (.tmp 36) (.tmp 41) 25 5 1 rfl Try.underlying25 info_u8 (by decide) _ ps P Ap P.length cp rfl rfl HD.out.ps HP.out HD.out.below (by have := HPL.out; have := hpp.out; omega) ?_; intro v2 w2 ho2 hb2 hg2; have HD2 := Aside0.mk (HD.out.where_ ho2 hb2 hg2); clear ho2 hb2 hg2))
        go_roundw
        case rel => exact ⟨i + 1, by go_num, by omega, ⟨by rw [HWN.out, HPN.out, more, if_pos hin]; exact HD2.out⟩⟩
        case measure => clear hwr; simp [intOf]; omega
      · have hd1 : decide (s ∈ acc) = false := decide_eq_false hin
        have hix : acc.idxOf s = acc.length := List.idxOf_eq_length hin
        rw [hix] at HX hwu HPN
        clear hix
        obtain ⟨A4, c4, hv4, lc4, _⟩ := Kd.R_reads HD.out.ws
        replace hv4 := Aside0.mk hv4
        obtain rfl := hv4.out
        clear hv4
        have hbm : Aside0 (some wr.heap.size ≠ some w.heap.size) := ⟨fun h => by injection h with h; have := HD0.out.map.lt; omega⟩
        have hb4 : Aside0 (some wr.heap.size ≠ (Value.slice A4 acc.length c4).ownBlock) := ⟨fun h => by have := own_lt (Kd.own_of_R HD0.out.ws) _ h.symm; omega⟩
        have hbx0 := Aside0.mk (heap_alloc_new wr (.cells #[.string s] 39))
        have hins : Aside0 (s ∈ acc ++ [s]) := ⟨by simp⟩
        have hixs : Aside0 ((acc ++ [s]).idxOf s = acc.length) := ⟨by rw [List.idxOf_append, if_neg hin]; simp⟩
        go_wp2_with (first
          | (at_lookup; refine lookOk rfl (.tmp 21) (.tmp 22) rfl w.heap.size acc rfl HD.out.map s (by unfold maxLen; omega) rfl ?_; intro cc)
          | (at_mapUpdate; refine storeNew rfl (.tmp 28) (.tmp 29) (.tmp 31) rfl w.heap.size acc rfl HD.out.map s (by unfold maxLen; omega) hin rfl rfl (by have := HAL.out; omega) ?_; intro w1 hm1 hg1; have HD1 := Aside0.mk (HD.out.stored hm1 hg1); have hbx1 := Aside0.mk (box_kept hbx0.out hg1 hbm.out); clear hm1 hg1)
          | (at_builtin; refine appendOneS (w0 := w) rfl (.tmp 32) (.tmp 34) rfl _ acc s rfl rfl HD1.out.ws HD1.out.below (by have := HAL.out; omega) ?_; intro v4 w2 ho2 hb2 hg2; have HD2 := Aside0.mk (HD1.out.word ho2 hb2 hg2); have hbx2 := Aside0.mk (box_kept hbx1.out hg2 hb4.out); have hbx3 := box_cell hbx2.out; clear ho2 hb2 hg2)
          | (at_lookup; refine lookIn rfl (.tmp 37) (.tmp 38) rfl w.heap.size (acc ++ [s]) rfl HD2.out.map s (by unfold maxLen; omega) hins.out rfl ?_; rw [hixs.out]))
        refine (putVar ((acc.length : Nat) : Int) (by omega) (by have := HAL.out; omega) _).mono ?_; rintro e w3 ⟨v, rfl, ho, hb⟩
        rw [Int.toNat_natCast] at ho
        obtain ⟨Ap, cp, rfl, lp, ho⟩ := R_C ho
        have HP := Aside0.mk ho
        replace HD := Aside0.mk (HD2.out.step hb)
        have hpp := Aside0.mk (pv_le10 acc.length (by have := HAL.out; omega))
        clear ho hb hcell hwu hbx3
        generalize pv acc.length = P at HP lp hpp HPN
        go_wp2_with (first
          | (at_builtin; refine appendRowG (k := .u8) (w0 := w) rfl (.tmp 36) (.tmp 41) 25 5 1 rfl Try.underlying25 info_u8 (by decide) _ ps P Ap P.length cp rfl rfl HD.out.ps HP.out HD.out.below (by have := HPL.out; have := hpp.out; omega) ?_; intro v5 w5 ho2 hb2 hg2; have HD5 := Aside0.mk (HD.out.where_ ho2 hb2 hg2); clear ho2 hb2 hg2))
        go_roundw
        case rel => exact ⟨i + 1, by go_num, by omega, ⟨by rw [HWN.out, HPN.out, more, if_neg hin]; exact HD5.out⟩⟩
        case measure => clear hwr; simp [intOf]; omega
    · obtain rfl : i = l.length := by omega
      have hT := HD.out
      rw [List.take_of_length_le (Nat.le_refl _)] at hT hal hpl0
      have hwm : ∀ x ∈ words [] l, x.size ≤ 1000 := fun x hx => (words_mem l [] x hx).elim (fun h0 => by cases h0) (HS.out x)
      have HWM := Aside0.mk hwm
      have hdd : Aside0 (dict l = (pv (words [] l).length ++ each (words [] l)) ++ wheres [] l) := ⟨by rw [dict, List.append_assoc]⟩
      have hel := Aside0.mk (each_le (words [] l) 1000 hwm (by decide))
      clear hwm HD
      have HD := Aside0.mk hT
      clear hT
      generalize words [] l = acc at HD hal HWM hdd hel
      generalize wheres [] l = ps at HD hpl0 hdd
      obtain ⟨A4, c4, hv4, lc4, hr4⟩ := Kd.R_reads HD.out.ws
      obtain ⟨A5, c5, hv5, lc5, hr5⟩ := R_C HD.out.ps
      have HR4 := Aside0.mk hr4
      have HR5 := Aside0.mk hr5
      replace hv4 := Aside0.mk hv4
      replace hv5 := Aside0.mk hv5
      obtain rfl := hv4.out
      obtain rfl := hv5.out
      clear hv4 hv5 hr4 hr5
      have HAL := Aside0.mk hal
      have HPL := Aside0.mk hpl0
      have hwu : IntKind.u64.wrap ((acc.length : Nat) : Int) = ((acc.length : Nat) : Int) := wrap_u64_id (by omega) (by omega)
      clear hal hpl0
      go_wp2_with (fail)
      refine (putVar ((acc.length : Nat) : Int) (by omega) (by have := HAL.out; omega) _).mono ?_; rintro e w1 ⟨v, rfl, ho, hb⟩
      rw [Int.toNat_natCast] at ho
      have HO1 := Aside0.mk ho
      have HB1 := Aside0.mk hb
      have HR41 := Aside0.mk (Kd.C_below HR4.out hb)
      have hpp := Aside0.mk (pv_le10 acc.length (by have := HAL.out; omega))
      clear ho hb hwu
      generalize pv acc.length = P at HO1 hpp hdd
      go_wp2_with (fail)
      refine (eachC A4 c4 acc _ HR41.out lc4 (by have := HAL.out; omega) HWM.out).mono ?_; rintro e w2 ⟨v2, rfl, ho, hb⟩
      obtain ⟨Ae, ce, rfl, le, ho⟩ := R_C ho
      have HE := Aside0.mk ho
      have HO2 := Aside0.mk (Kd.R_below HO1.out hb)
      have HB2 := Aside0.mk (below_step HB1.out hb)
      clear ho hb
      generalize each acc = E at HE le hel hdd
      go_wp2_with (first
        | (at_builtin; refine appendRow (k := .u8) (w0 := wr) rfl (.tmp 47) (.tmp 49) 25 5 1 rfl Try.underlying25 info_u8 (by decide) _ P E Ae E.length ce rfl rfl HO2.out HE.out HB2.out (by have := hel.out; have := HAL.out; have := hpp.out; omega) ?_; intro v3 w3 ho2 hb2; have HO3 := Aside0.mk ho2; have HB3 := Aside0.mk hb2; have HR53 := Aside0.mk (Kd.C_below HR5.out hb2); clear ho2 hb2)
        | (at_builtin; refine appendRow (k := .u8) (w0 := wr) rfl (.tmp 50) (.tmp 51) 25 5 1 rfl Try.underlying25 info_u8 (by decide) _ (P ++ E) ps A5 ps.length c5 rfl rfl HO3.out HR53.out HB3.out (by have := hel.out; have := HAL.out; have := hpp.out; have := HPL.out; rw [List.length_append]; omega) ?_; intro v4 w4 ho2 hb2; have HO4 := Aside0.mk ho2; have HB4 := Aside0.mk hb2; clear ho2 hb2))
      go_ret
      exact ⟨_, rfl, by rw [hdd.out]; exact Kd.R_lower HO4.out HD.out.below.size, below_step HD.out.below HB4.out⟩

end Go.Proofs.Ytnecipeckamiiaa.CDict

/- CPlace: The contracts of the texts reference's place and Same, and of few. -/
namespace Go.Proofs.Ytnecipeckamiiaa.CPlace
open Go.RowKit Go.Proofs.Ytnecipeckamiiaa.QTextsAll Go.Proofs.YtnecipeckamiiaaW.PrintWords Go.Proofs.YtnecipeckamiiaaW.PrintLast Go.Proofs.YtnecipeckamiiaaW.PrintMore Go.Proofs.Ytnecipeckamiiaa.Num Go.Proofs.Ytnecipeckamiiaa.Bits Go.Proofs.Ytnecipeckamiiaa.VarM Go.Proofs.Ytnecipeckamiiaa.TextsT Go.Proofs.Ytnecipeckamiiaa.Hold Go.Proofs.Ytnecipeckamiiaa.HoldS
set_option linter.unusedVariables false

theorem toList_inj {s t : ByteArray} (h : s.toList = t.toList) : s = t := by
  rw [← str_bytesOf s, ← str_bytesOf t] at h
  exact bytesOf_inj (str_inj (bytesOf_Bytes s) (bytesOf_Bytes t) h)
theorem drop_rd (l : List ByteArray) (i : Nat) (h : i < l.length) : l.drop i = rdOf ByteArray.empty l i :: l.drop (i + 1) := by
  rw [List.drop_eq_getElem_cons h]
  simp [rdOf, List.getD_eq_getElem?_getD, h]
def placeI (l : List ByteArray) (s : ByteArray) : Int := if s ∈ l then (l.idxOf s : Int) else -1
theorem place_loop (l : List ByteArray) (s : ByteArray) (hn : l.length < 1000000000) (d : Nat) : ∀ (k i : Nat), i + d = l.length → d < k →
    thresherref06_place.l0 k l s (i : Int) = some (if s ∈ l.drop i then ((i + (l.drop i).idxOf s : Nat) : Int) else -1) := by
  induction d with
  | zero =>
    intro k i hi hk
    obtain ⟨k, rfl⟩ : ∃ m, k = m + 1 := ⟨k - 1, by omega⟩
    rw [thresherref06_place.l0, if_neg (by omega), List.drop_of_length_le (by omega)]
    simp
  | succ d ih =>
    intro k i hi hk
    obtain ⟨k, rfl⟩ : ∃ m, k = m + 1 := ⟨k - 1, by omega⟩
    have e : wrap64 ((i : Int) + 1) = ((i + 1 : Nat) : Int) := by rw [wrap64_id (by omega) (by omega)]; rfl
    rw [thresherref06_place.l0, if_pos (by omega), if_pos (by omega), drop_rd l i (by omega)]
    by_cases h : rdOf ByteArray.empty l i = s
    · rw [if_pos (by rw [h]), h, if_pos List.mem_cons_self]
      simp
    · rw [if_neg (fun h0 => h (toList_inj h0)), e, ih k (i + 1) (by omega) (by omega)]
      have hm : (s ∈ rdOf ByteArray.empty l i :: l.drop (i + 1)) ↔ s ∈ l.drop (i + 1) := by
        rw [List.mem_cons]
        exact ⟨fun h1 => h1.resolve_left (fun h2 => h h2.symm), .inr⟩
      rw [List.idxOf_cons, beq_eq_false_iff_ne.mpr h]
      by_cases h2 : s ∈ l.drop (i + 1)
      · rw [if_pos h2, if_pos (hm.2 h2)]
        congr 2
        simp
        omega
      · rw [if_neg h2, if_neg (fun h3 => h2 (hm.1 h3))]
theorem placeC (A : Option Addr) (c : Nat) (l : List ByteArray) (s : ByteArray) (w : World) (hr : Kd.C Kd.string w A l.length l) (hc : l.length ≤ c) (hn : l.length < 1000000000) :
    Calls Try.prog 30 #[.slice A l.length c, .string s] w fun e w' => e = .returned (.int .i64 (placeI l s)) ∧ Drawn0 w w' := by
  refine thresherref06_place.calls (l.length + 1) A c l s _ w hr hc ?_
  unfold thresherref06_place.f
  rw [show (0 : Int) = ((0 : Nat) : Int) from rfl, place_loop l s hn l.length (l.length + 1) 0 (by omega) (by omega)]
  simp [placeI]
/-- Same, of any two rows. -/
theorem same_loop (l m : List ByteArray) (hn : l.length < 1000000000) (hlm : l.length = m.length) (d : Nat) : ∀ (k i : Nat), i + d = l.length → d < k →
    thresherref06_Same.l0 k l m (i : Int) = some (decide (l.drop i = m.drop i)) := by
  induction d with
  | zero =>
    intro k i hi hk
    obtain ⟨k, rfl⟩ : ∃ m, k = m + 1 := ⟨k - 1, by omega⟩
    rw [thresherref06_Same.l0, if_neg (by omega), List.drop_of_length_le (by omega), List.drop_of_length_le (by omega)]
    simp
  | succ d ih =>
    intro k i hi hk
    obtain ⟨k, rfl⟩ : ∃ m, k = m + 1 := ⟨k - 1, by omega⟩
    have e : wrap64 ((i : Int) + 1) = ((i + 1 : Nat) : Int) := by rw [wrap64_id (by omega) (by omega)]; rfl
    rw [thresherref06_Same.l0, if_pos (by omega), if_pos (by omega), if_pos (by omega), drop_rd l i (by omega), drop_rd m i (by omega)]
    by_cases h : rdOf ByteArray.empty l i = rdOf ByteArray.empty m i
    · rw [if_pos (by rw [h]), e, ih k (i + 1) (by omega) (by omega), h]
      simp
    · rw [if_neg (fun h0 => h (toList_inj h0))]
      simp [h]
theorem sameC (A A' : Option Addr) (c c' : Nat) (l m : List ByteArray) (w : World) (hr : Kd.C Kd.string w A l.length l) (hc : l.length ≤ c) (hr' : Kd.C Kd.string w A' m.length m) (hc' : m.length ≤ c') (hn : l.length < 1000000000) :
    Calls Try.prog 16 #[.slice A l.length c, .slice A' m.length c'] w fun e w' => e = .returned (.bool (decide (l = m))) ∧ Drawn0 w w' := by
  refine thresherref06_Same.calls (l.length + 1) A c l A' c' m _ w hr hc hr' hc' ?_
  unfold thresherref06_Same.f
  by_cases h : l.length = m.length
  · rw [if_pos (by omega), show (0 : Int) = ((0 : Nat) : Int) from rfl, same_loop l m hn h l.length (l.length + 1) 0 (by omega) (by omega)]
    simp
  · rw [if_neg (by omega)]
    congr 1
    exact (decide_eq_false (fun h0 => h (by rw [h0]))).symm

end Go.Proofs.Ytnecipeckamiiaa.CPlace

/- CREach: The contract of the texts reference's Each. -/
namespace Go.Proofs.Ytnecipeckamiiaa.CREach
open Go.RowKit Go.Proofs.Ytnecipeckamiiaa.CEach Go.Proofs.Ytnecipeckamiiaa.RVar Go.Proofs.Ytnecipeckamiiaa.QTextsAll Go.Proofs.YtnecipeckamiiaaW.PrintWords Go.Proofs.YtnecipeckamiiaaW.PrintLast Go.Proofs.YtnecipeckamiiaaW.PrintMore Go.Proofs.Ytnecipeckamiiaa.Num Go.Proofs.Ytnecipeckamiiaa.Bits Go.Proofs.Ytnecipeckamiiaa.VarM Go.Proofs.Ytnecipeckamiiaa.TextsT Go.Proofs.Ytnecipeckamiiaa.Hold Go.Proofs.Ytnecipeckamiiaa.HoldS
set_option linter.unusedVariables false
set_option linter.unusedSimpArgs false
attribute [local go_sem] max2_int min2_int max_two min_two max_three min_three max_four min_four

set_option maxHeartbeats 8000000 in
set_option maxRecDepth 100000 in
theorem refEach (A : Option Addr) (c : Nat) (l : List ByteArray) (w : World) (hr : Kd.C Kd.string w A l.length l) (hc : l.length ≤ c) (hl : l.length ≤ 2000) (hs : ∀ s ∈ l, s.size ≤ 1000) :
    Calls Try.prog 17 #[.slice A l.length c] w fun e w' => ∃ v, e = .returned v ∧ Kd.R (Kd.int .u8) 5 w' w.heap.size (fun _ => True) v (each l) ∧ Below w.heap.size w w' := by
  have HR := Aside0.mk hr
  have HS := Aside0.mk hs
  clear hr hs
  go_enter Try.func17, Try.ntmps17
  go_wp2_with (fail)
  go_loopw [3, 4] (fun v3 v8 wr => ∃ i : Nat, v8 = .int .i64 i ∧ i ≤ l.length ∧ Aside0 (Kd.R (Kd.int .u8) 5 wr w.heap.size (fun _ => True) v3 (each (l.take i))) ∧ Aside0 (Below w.heap.size w wr)) (fun _ v8 _ => l.length - (intOf v8).toNat)
  case atStart => exact ⟨0, by go_num, by omega, ⟨by simpa [each] using R_empty 5 w⟩, ⟨below_alloc (Below.refl _ _) _⟩⟩
  case round =>
    obtain ⟨i, rfl, hil, HO, HB⟩ := hrel
    by_cases hi : i < l.length
    · obtain ⟨ad, rfl, hcell⟩ := Kd.at_string HR.out (i : Int) (by omega) (by omega)
      have hiI : (i : Int) < (l.length : Int) := by omega
      have hi0 : (0 : Int) ≤ (i : Int) := by omega
      obtain ⟨s, hsx⟩ : ∃ s, rdOf ByteArray.empty l (i : Int) = s := ⟨_, rfl⟩
      have hs1 : s.size ≤ 1000 := by
        rw [← hsx, rdOf, Int.toNat_natCast, List.getD_eq_getElem?_getD, List.getElem?_eq_getElem hi]
        exact HS.out _ (List.getElem_mem hi)
      have hsn := Aside0.mk (each_snoc l i hi)
      rw [hsx] at hcell hsn
      rw [Int.toNat_natCast] at hcell
      clear hsx
      have hEl : (each (l.take i)).length ≤ 2020000 := by
        have := each_le (l.take i) 1000 (fun x hx => HS.out x (List.mem_of_mem_take hx)) (by decide)
        have h2 : (l.take i).length ≤ 2000 := by rw [List.length_take]; omega
        have h3 := Nat.mul_le_mul_right (1000 + 10) h2
        omega
      have hEl2 := Aside0.mk hEl
      have hpl := Aside0.mk (pv_le10 s.size (by omega))
      obtain ⟨P, hPe⟩ : ∃ P, pv s.size = P := ⟨_, rfl⟩
      rw [hPe] at hsn hpl
      replace hPe := Aside0.mk hPe
      have hwr : wrap64 ((i : Int) + 1) = ((i + 1 : Nat) : Int) := by rw [wrap64_id (by omega) (by omega)]; rfl
      have hwu : IntKind.u64.wrap (s.size : Int) = (s.size : Int) := wrap_u64_id (by omega) (by omega)
      generalize each (l.take i) = E at HO hsn hEl2
      clear hEl
      have hcell2 := Aside0.mk hcell
      replace hcell := pw_cell_below HB.out hcell
      have hcell3 := Aside0.mk hcell
      clear hcell
      go_wp2_with (fail)
      refine start_ (n := 15) (S := fun w' => w'.cell? (ad.add i) = some (.string s)) (ds := []) #[false, false, false, false, false, false, false, false, false, false, false, false, false, false, false] (by kernel_rfl) rfl rfl (hcell3.out) (fun hHeld => ?_)
      refine pure_ (i := 0) (N := some 12) (v := ?_) (a' := ?_) #[true, false, false, false, false, false, false, false, false, false, false, false, false, false, false] rfl rfl (by kernel_rfl) (fun _ _ _ h => h) (Or.inl ⟨by rfl, ?_⟩) ?_ ?_
      rotate_left
      · intro w'
        go_simp
        with_reducible rfl
      rotate_left
      · simp only [Act.put, List.setIfInBounds_toArray, List.set_cons_zero, List.set_cons_succ, i64_w, i32_w]
        rfl
      refine pure_ (i := 1) (N := some 13) (v := ?_) (a' := ?_) #[true, true, false, false, false, false, false, false, false, false, false, false, false, false, false] rfl rfl (by kernel_rfl) (fun _ _ _ h => h) (Or.inl ⟨by rfl, ?_⟩) ?_ ?_
      rotate_left
      · intro w'
        go_simp
        with_reducible rfl
      rotate_left
      · simp only [Act.put, List.setIfInBounds_toArray, List.set_cons_zero, List.set_cons_succ, i64_w, i32_w]
        rfl
      refine pure_ (i := 2) (N := some 14) (v := ?_) (a' := ?_) #[true, true, true, false, false, false, false, false, false, false, false, false, false, false, false] rfl rfl (by kernel_rfl) (fun _ _ _ h => h) (Or.inl ⟨by rfl, ?_⟩) ?_ ?_
      rotate_left
      · intro w'
        go_simp
        with_reducible rfl
      rotate_left
      · simp only [Act.put, List.setIfInBounds_toArray, List.set_cons_zero, List.set_cons_succ, i64_w, i32_w]
        rfl
      refine pure_ (i := 3) (N := some 15) (v := ?_) (a' := ?_) #[true, true, true, true, false, false, false, false, false, false, false, false, false, false, false] rfl rfl (by kernel_rfl) (fun _ _ _ h => h) (Or.inl ⟨by rfl, ?_⟩) ?_ ?_
      rotate_left
      · intro w'
        go_simp
        with_reducible rfl
      rotate_left
      · simp only [Act.put, List.setIfInBounds_toArray, List.set_cons_zero, List.set_cons_succ, i64_w, i32_w]
        rfl
      refine pure_ (i := 9) (N := some 21) (v := ?_) (a' := ?_) #[true, true, true, true, false, false, false, false, false, true, false, false, false, false, false] rfl rfl (by kernel_rfl) (fun _ _ _ h => h) (Or.inl ⟨by rfl, ?_⟩) ?_ ?_
      rotate_left
      · intro w'
        go_simp
        with_reducible rfl
      rotate_left
      · simp only [Act.put, List.setIfInBounds_toArray, List.set_cons_zero, List.set_cons_succ, i64_w, i32_w]
        rfl
      refine pure_ (i := 10) (N := some 22) (v := ?_) (a' := ?_) #[true, true, true, true, false, false, false, false, false, true, true, false, false, false, false] rfl rfl (by kernel_rfl) (fun _ _ _ h => h) (Or.inl ⟨by rfl, ?_⟩) ?_ ?_
      rotate_left
      · intro w'
        go_simp
        with_reducible rfl
      rotate_left
      · simp only [Act.put, List.setIfInBounds_toArray, List.set_cons_zero, List.set_cons_succ, i64_w, i32_w]
        rfl
      refine pure_ (i := 11) (N := some 23) (v := ?_) (a' := ?_) #[true, true, true, true, false, false, false, false, false, true, true, true, false, false, false] rfl rfl (by kernel_rfl) (fun _ _ _ h => h) (Or.inl ⟨by rfl, ?_⟩) ?_ ?_
      rotate_left
      · intro w'
        go_simp
        with_reducible rfl
      rotate_left
      · simp only [Act.put, List.setIfInBounds_toArray, List.set_cons_zero, List.set_cons_succ, i64_w, i32_w]
        rfl
      refine take_ (i := 4) (N := some 16) (v := ?_) (a' := ?_) #[true, true, true, true, true, false, false, false, false, true, true, true, false, false, false] rfl rfl (by kernel_rfl) (fun _ _ _ h => h) (Or.inl ⟨by rfl, ?_⟩) hHeld ?_ ?_
      rotate_left
      · intro w' s0
        go_simp
        with_reducible rfl
      rotate_left
      · simp only [Act.put, List.setIfInBounds_toArray, List.set_cons_zero, List.set_cons_succ, i64_w, i32_w]
        rfl
      refine pure_ (i := 5) (N := some 17) (v := ?_) (a' := ?_) #[true, true, true, true, true, true, false, false, false, true, true, true, false, false, false] rfl rfl (by kernel_rfl) (fun _ _ _ h => h) (Or.inl ⟨by rfl, ?_⟩) ?_ ?_
      rotate_left
      · intro w'
        go_simp
        with_reducible rfl
      rotate_left
      · simp only [Act.put, List.setIfInBounds_toArray, List.set_cons_zero, List.set_cons_succ, i64_w, i32_w]
        rfl
      refine pure_ (i := 6) (N := some 18) (v := ?_) (a' := ?_) #[true, true, true, true, true, true, true, false, false, true, true, true, false, false, false] rfl rfl (by kernel_rfl) (fun _ _ _ h => h) (Or.inl ⟨by rfl, ?_⟩) ?_ ?_
      rotate_left
      · intro w'
        go_simp
        with_reducible rfl
      rotate_left
      · simp only [Act.put, List.setIfInBounds_toArray, List.set_cons_zero, List.set_cons_succ, i64_w, i32_w]
        rfl
      refine take_ (i := 12) (N := some 24) (v := ?_) (a' := ?_) #[true, true, true, true, true, true, true, false, false, true, true, true, true, false, false] rfl rfl (by kernel_rfl) (fun _ _ _ h => h) (Or.inl ⟨by rfl, ?_⟩) hHeld ?_ ?_
      rotate_left
      · intro w' s0
        go_simp
        with_reducible rfl
      rotate_left
      · simp only [Act.put, List.setIfInBounds_toArray, List.set_cons_zero, List.set_cons_succ, i64_w, i32_w]
        rfl
      refine one_ (i := 7) (N := some 19) #[true, true, true, true, true, true, true, true, false, true, true, true, true, false, false] rfl rfl (by kernel_rfl) (by decide) (fun K hK => ?_)
      refine goes_ Try.func29 (by kernel_rfl) rfl #[.int .u64 (s.size : Int)] (by rfl) rfl rfl (by simp only [List.map_toArray, List.map_cons, List.map_nil]; rfl) ?_
      refine (refPut (s.size : Int) (by omega) (by omega) _).mono ?_
      rintro e w3 ⟨v, rfl, ho, hb⟩
      refine ⟨_, rfl, ?_⟩
      rw [Int.toNat_natCast, hPe.out] at ho
      obtain ⟨Ap, cp, rfl, lp, ho⟩ := R_C ho
      have HP := Aside0.mk ho
      have HO3 := Aside0.mk (Kd.R_below (Kd.R_drew HO.out) hb)
      have HB3 := Aside0.mk (below_step (below_drew HB.out) hb)
      have hc3 := pw_cell_below hb hHeld
      clear ho hb
      refine hK.out _ _ (hc3) (fun hHeld => ?_)
      clear hK K
      refine norm_ (a' := ?_) ?_ ?_
      rotate_left
      · show Act.put _ (some 19) _ = _
        simp only [Act.put, List.setIfInBounds_toArray, List.set_cons_zero, List.set_cons_succ, i64_w, i32_w]
        rfl
      refine one_ (i := 8) (N := some 20) #[true, true, true, true, true, true, true, true, true, true, true, true, true, false, false] rfl rfl (by kernel_rfl) (by decide) (fun K hK => ?_)
      refine appendRow_step (k := .u8) (w0 := w) (by rfl) (.tmp 12) (.tmp 19) 25 5 1 rfl Try.underlying25 CEach.info_u8 (by decide) _ E P Ap P.length cp rfl rfl HO3.out HP.out HB3.out (by have := hEl2.out; have := hpl.out; omega) ?_
      intro v8 w8 ho8 hb8
      have HO8 := Aside0.mk ho8
      have HB8 := Aside0.mk hb8
      clear ho8 hb8
      refine hK.out _ _ ((pw_cell_below HB8.out hcell2.out)) (fun hHeld => ?_)
      clear hK K
      refine norm_ (a' := ?_) ?_ ?_
      rotate_left
      · show Act.put _ (some 20) _ = _
        simp only [Act.put, List.setIfInBounds_toArray, List.set_cons_zero, List.set_cons_succ, i64_w, i32_w]
        rfl
      refine one_ (i := 13) (N := some 25) #[true, true, true, true, true, true, true, true, true, true, true, true, true, true, false] rfl rfl (by kernel_rfl) (by decide) (fun K hK => ?_)
      refine appendStr_step (w0 := w) (by rfl) (.tmp 20) (.tmp 24) 25 9 5 rfl Try.underlying25 Try.underlying9 CEach.info_u8 _ (E ++ P) s rfl rfl HO8.out HB8.out (by have := hEl2.out; have := hpl.out; rw [List.length_append]; omega) ?_
      intro v9 w9 ho9 hb9
      have HO9 := Aside0.mk ho9
      have HB9 := Aside0.mk hb9
      clear ho9 hb9
      refine hK.out _ _ ((pw_cell_below HB9.out hcell2.out)) (fun hHeld => ?_)
      clear hK K
      refine norm_ (a' := ?_) ?_ ?_
      rotate_left
      · show Act.put _ (some 25) _ = _
        simp only [Act.put, List.setIfInBounds_toArray, List.set_cons_zero, List.set_cons_succ, i64_w, i32_w]
        rfl
      refine pure_ (i := 14) (N := some 3) (v := ?_) (a' := ?_) #[true, true, true, true, true, true, true, true, true, true, true, true, true, true, true] rfl rfl (by kernel_rfl) (fun _ _ _ h => h) (Or.inl ⟨by rfl, ?_⟩) ?_ ?_
      rotate_left
      · intro w'
        go_simp
        with_reducible rfl
      rotate_left
      · simp only [Act.put, List.setIfInBounds_toArray, List.set_cons_zero, List.set_cons_succ, i64_w, i32_w]
        rfl
      refine done_ (by kernel_rfl) ?_
      go_wp2_with (fail)
      go_roundw
      case rel => exact ⟨i + 1, by go_num, by omega, ⟨by rw [hsn.out, ← List.append_assoc]; exact HO9.out⟩, HB9⟩
      case measure => clear hwr; simp [intOf]; omega
    · obtain rfl : i = l.length := by omega
      have hT := HO.out
      rw [List.take_of_length_le (Nat.le_refl _)] at hT
      have HT := Aside0.mk hT
      clear hT HO
      go_wp2_with (fail)
      go_ret
      exact ⟨_, rfl, HT.out, HB.out⟩

end Go.Proofs.Ytnecipeckamiiaa.CREach

/- CRDict: The contract of the texts reference's Dict. -/
namespace Go.Proofs.Ytnecipeckamiiaa.CRDict
open Go.RowKit Go.Proofs.Ytnecipeckamiiaa.RVar Go.Proofs.Ytnecipeckamiiaa.QTextsAll Go.Proofs.YtnecipeckamiiaaW.PrintWords Go.Proofs.YtnecipeckamiiaaW.PrintLast Go.Proofs.YtnecipeckamiiaaW.PrintMore Go.Proofs.Ytnecipeckamiiaa.Num Go.Proofs.Ytnecipeckamiiaa.Bits Go.Proofs.Ytnecipeckamiiaa.VarM Go.Proofs.Ytnecipeckamiiaa.TextsT Go.Proofs.Ytnecipeckamiiaa.Hold Go.Proofs.Ytnecipeckamiiaa.HoldS Go.Proofs.Ytnecipeckamiiaa.CEach Go.Proofs.Ytnecipeckamiiaa.KDict Go.Proofs.Ytnecipeckamiiaa.CREach Go.Proofs.Ytnecipeckamiiaa.CPlace
set_option linter.unusedVariables false
set_option linter.unusedSimpArgs false
attribute [local go_sem] max2_int min2_int max_two min_two max_three min_three max_four min_four

set_option maxHeartbeats 8000000 in
set_option maxRecDepth 100000 in
theorem refDict (A : Option Addr) (c : Nat) (l : List ByteArray) (w : World) (hr : Kd.C Kd.string w A l.length l) (hc : l.length ≤ c) (hl : l.length ≤ 2000) (hs : ∀ s ∈ l, s.size ≤ 1000) :
    Calls Try.prog 18 #[.slice A l.length c] w fun e w' => ∃ v, e = .returned v ∧ Kd.R (Kd.int .u8) 5 w' w.heap.size (fun _ => True) v (dict l) ∧ Below w.heap.size w w' := by
  have HR := Aside0.mk hr
  have HS := Aside0.mk hs
  clear hr hs
  go_enter Try.func18, Try.ntmps18
  go_wp2_with (fail)
  go_loopw [3, 4, 5] (fun v4 v5 v14 wr => ∃ i : Nat, v14 = .int .i64 i ∧ i ≤ l.length ∧ Aside0 (WInv w wr v4 v5 (words [] (l.take i)) (wheres [] (l.take i)))) (fun _ _ v14 _ => l.length - (intOf v14).toNat)
  case atStart => exact ⟨0, by go_num, by omega, ⟨WInv.start w⟩⟩
  case round =>
    obtain ⟨i, rfl, hil, HD⟩ := hrel
    have hal := words_length (l.take i) []
    have hpl0 := wheres_le (l.take i) [] (by rw [List.length_take, List.length_nil]; omega)
    have htk : (l.take i).length = i := by rw [List.length_take]; omega
    rw [htk] at hal hpl0
    rw [List.length_nil, Nat.zero_add] at hal
    clear htk
    by_cases hi : i < l.length
    · obtain ⟨ad, rfl, hcell⟩ := Kd.at_string (Kd.C_below HR.out HD.out.below) (i : Int) (by omega) (by omega)
      have hiI : (i : Int) < (l.length : Int) := by omega
      have hi0 : (0 : Int) ≤ (i : Int) := by omega
      obtain ⟨s, hsx⟩ : ∃ s, rdOf ByteArray.empty l (i : Int) = s := ⟨_, rfl⟩
      have hs1 : s.size ≤ 1000 := by
        rw [← hsx, rdOf, Int.toNat_natCast, List.getD_eq_getElem?_getD, List.getElem?_eq_getElem hi]
        exact HS.out _ (List.getElem_mem hi)
      have hsn := Aside0.mk (take_snoc l i hi)
      rw [hsx] at hcell hsn
      rw [Int.toNat_natCast] at hcell
      clear hsx
      have hwn := words_snoc (l.take i) s []
      have hpn := wheres_snoc (l.take i) s []
      rw [← hsn.out] at hwn hpn
      clear hsn
      generalize wheres [] (l.take i) = ps at HD hpn hpl0
      generalize words [] (l.take i) = acc at HD hwn hpn hal
      have HPN := Aside0.mk hpn
      have HWN := Aside0.mk hwn
      clear hpn hwn
      have hwr : wrap64 ((i : Int) + 1) = ((i + 1 : Nat) : Int) := by rw [wrap64_id (by omega) (by omega)]; rfl
      have HX := Aside0.mk (show acc.idxOf s ≤ acc.length from List.idxOf_le_length)
      have HAL := Aside0.mk hal
      have HPL := Aside0.mk hpl0
      clear hal hpl0
      obtain ⟨A4, c4, hv4, lc4, hr4⟩ := Kd.R_reads HD.out.ws
      replace hv4 := Aside0.mk hv4
      obtain rfl := hv4.out
      clear hv4
      have HR4 := Aside0.mk hr4
      clear hr4
      go_wp2_with (fail)
      have hpb := HAL.out
      by_cases hin : s ∈ acc
      · have hpl : placeI acc s = ((acc.idxOf s : Nat) : Int) := if_pos hin
        have HPC := Aside0.mk (placeC A4 c4 acc s _ HR4.out lc4 (by omega))
        rw [hpl] at HPC
        have hwu : IntKind.u64.wrap ((acc.idxOf s : Nat) : Int) = ((acc.idxOf s : Nat) : Int) := wrap_u64_id (by omega) (by have := HX.out; omega)
        clear hpl hpb
        refine (HPC.out).mono ?_; rintro e w1 ⟨rfl, ⟨nd, rfl⟩⟩
        replace HD := Aside0.mk (HD.out.step (pw_below_drewN (Below.refl _ _) nd))
        clear HPC HR4
        go_wp2_with (fail)
        refine (refPut ((acc.idxOf s : Nat) : Int) (by omega) (by have := HX.out; have := HAL.out; omega) _).mono ?_; rintro e w1 ⟨v, rfl, ho, hb⟩
        rw [Int.toNat_natCast] at ho
        obtain ⟨Ap, cp, rfl, lp, ho⟩ := R_C ho
        have HP := Aside0.mk ho
        replace HD := Aside0.mk (HD.out.step hb)
        have hpp := Aside0.mk (pv_le10 (acc.idxOf s) (by have := HX.out; have := HAL.out; omega))
        clear ho hb hcell hwu
        generalize pv (acc.idxOf s) = P at HP lp hpp HPN
        go_wp2_with (first
          | (at_builtin; refine appendRowG (k := .u8) (w0 := w) rfl (.tmp 32) (.tmp 35) 25 5 1 rfl Try.underlying25 CEach.info_u8 (by decide) _ ps P Ap P.length cp rfl rfl HD.out.ps HP.out HD.out.below (by have := HPL.out; have := hpp.out; omega) ?_; intro v2 w2 ho2 hb2 hg2; have HD2 := Aside0.mk (HD.out.where_ ho2 hb2 hg2); clear ho2 hb2 hg2))
        go_roundw
        case rel => exact ⟨i + 1, by go_num, by omega, ⟨by rw [HWN.out, HPN.out, more, if_pos hin]; exact HD2.out⟩⟩
        case measure => clear hwr; simp [intOf]; omega
      · have hpl : placeI acc s = -1 := if_neg hin
        have hix : acc.idxOf s = acc.length := List.idxOf_eq_length hin
        rw [hix] at HX HPN
        clear hix
        have HPC := Aside0.mk (placeC A4 c4 acc s _ HR4.out lc4 (by omega))
        rw [hpl] at HPC
        clear hpl hpb
        refine (HPC.out).mono ?_; rintro e w1 ⟨rfl, ⟨nd, rfl⟩⟩
        replace HD := Aside0.mk (HD.out.step (pw_below_drewN (Below.refl _ _) nd))
        have hcell2 := (show (wr.drewN nd).cell? (ad.add i) = some (.string s) from hcell)
        clear HPC HR4 hcell
        generalize wr.drewN nd = w1 at *
        have hwu : IntKind.u64.wrap ((acc.length : Nat) : Int) = ((acc.length : Nat) : Int) := wrap_u64_id (by omega) (by have := HAL.out; omega)
        go_wp2_with (first
          | (at_builtin; refine appendOneS (w0 := w) rfl (.tmp 25) (.tmp 30) rfl _ acc s rfl rfl HD.out.ws HD.out.below (by have := HAL.out; omega) ?_; intro v4 w2 ho2 hb2 hg2; have HD2 := Aside0.mk (HD.out.word ho2 hb2 hg2); clear ho2 hb2 hg2))
        refine (refPut ((acc.length : Nat) : Int) (by omega) (by have := HAL.out; omega) _).mono ?_; rintro e w3 ⟨v, rfl, ho, hb⟩
        rw [Int.toNat_natCast] at ho
        obtain ⟨Ap, cp, rfl, lp, ho⟩ := R_C ho
        have HP := Aside0.mk ho
        replace HD := Aside0.mk (HD2.out.step hb)
        have hpp := Aside0.mk (pv_le10 acc.length (by have := HAL.out; omega))
        clear ho hb hcell2 hwu
        generalize pv acc.length = P at HP lp hpp HPN
        go_wp2_with (first
          | (at_builtin; refine appendRowG (k := .u8) (w0 := w) rfl (.tmp 32) (.tmp 35) 25 5 1 rfl Try.underlying25 CEach.info_u8 (by decide) _ ps P Ap P.length cp rfl rfl HD.out.ps HP.out HD.out.below (by have := HPL.out; have := hpp.out; omega) ?_; intro v5 w5 ho2 hb2 hg2; have HD5 := Aside0.mk (HD.out.where_ ho2 hb2 hg2); clear ho2 hb2 hg2))
        go_roundw
        case rel => exact ⟨i + 1, by go_num, by omega, ⟨by rw [HWN.out, HPN.out, more, if_neg hin]; exact HD5.out⟩⟩
        case measure => clear hwr; simp [intOf]; omega
    · obtain rfl : i = l.length := by omega
      have hT := HD.out
      rw [List.take_of_length_le (Nat.le_refl _)] at hT hal hpl0
      have hwm : ∀ x ∈ words [] l, x.size ≤ 1000 := fun x hx => (words_mem l [] x hx).elim (fun h0 => by cases h0) (HS.out x)
      have HWM := Aside0.mk hwm
      have hdd : Aside0 (dict l = (pv (words [] l).length ++ each (words [] l)) ++ wheres [] l) := ⟨by rw [dict, List.append_assoc]⟩
      have hel := Aside0.mk (each_le (words [] l) 1000 hwm (by decide))
      clear hwm HD
      have HD := Aside0.mk hT
      clear hT
      generalize words [] l = acc at HD hal HWM hdd hel
      generalize wheres [] l = ps at HD hpl0 hdd
      obtain ⟨A4, c4, hv4, lc4, hr4⟩ := Kd.R_reads HD.out.ws
      obtain ⟨A5, c5, hv5, lc5, hr5⟩ := R_C HD.out.ps
      have HR4 := Aside0.mk hr4
      have HR5 := Aside0.mk hr5
      replace hv4 := Aside0.mk hv4
      replace hv5 := Aside0.mk hv5
      obtain rfl := hv4.out
      obtain rfl := hv5.out
      clear hv4 hv5 hr4 hr5
      have HAL := Aside0.mk hal
      have HPL := Aside0.mk hpl0
      have hwu : IntKind.u64.wrap ((acc.length : Nat) : Int) = ((acc.length : Nat) : Int) := wrap_u64_id (by omega) (by omega)
      clear hal hpl0
      go_wp2_with (fail)
      refine (refPut ((acc.length : Nat) : Int) (by omega) (by have := HAL.out; omega) _).mono ?_; rintro e w1 ⟨v, rfl, ho, hb⟩
      rw [Int.toNat_natCast] at ho
      have HO1 := Aside0.mk ho
      have HB1 := Aside0.mk hb
      have HR41 := Aside0.mk (Kd.C_below HR4.out hb)
      have hpp := Aside0.mk (pv_le10 acc.length (by have := HAL.out; omega))
      clear ho hb hwu
      generalize pv acc.length = P at HO1 hpp hdd
      go_wp2_with (fail)
      refine (refEach A4 c4 acc _ HR41.out lc4 (by have := HAL.out; omega) HWM.out).mono ?_; rintro e w2 ⟨v2, rfl, ho, hb⟩
      obtain ⟨Ae, ce, rfl, le, ho⟩ := R_C ho
      have HE := Aside0.mk ho
      have HO2 := Aside0.mk (Kd.R_below HO1.out hb)
      have HB2 := Aside0.mk (below_step HB1.out hb)
      clear ho hb
      generalize each acc = E at HE le hel hdd
      go_wp2_with (first
        | (at_builtin; refine appendRow (k := .u8) (w0 := wr) rfl (.tmp 40) (.tmp 42) 25 5 1 rfl Try.underlying25 CEach.info_u8 (by decide) _ P E Ae E.length ce rfl rfl HO2.out HE.out HB2.out (by have := hel.out; have := HAL.out; have := hpp.out; omega) ?_; intro v3 w3 ho2 hb2; have HO3 := Aside0.mk ho2; have HB3 := Aside0.mk hb2; have HR53 := Aside0.mk (Kd.C_below HR5.out hb2); clear ho2 hb2)
        | (at_builtin; refine appendRow (k := .u8) (w0 := wr) rfl (.tmp 43) (.tmp 44) 25 5 1 rfl Try.underlying25 CEach.info_u8 (by decide) _ (P ++ E) ps A5 ps.length c5 rfl rfl HO3.out HR53.out HB3.out (by have := hel.out; have := HAL.out; have := hpp.out; have := HPL.out; rw [List.length_append]; omega) ?_; intro v4 w4 ho2 hb2; have HO4 := Aside0.mk ho2; have HB4 := Aside0.mk hb2; clear ho2 hb2))
      go_ret
      exact ⟨_, rfl, by rw [hdd.out]; exact Kd.R_lower HO4.out HD.out.below.size, below_step HD.out.below HB4.out⟩

end Go.Proofs.Ytnecipeckamiiaa.CRDict

/- CPutT: The contracts of texts.Put and of the reference's Put. -/
namespace Go.Proofs.Ytnecipeckamiiaa.CPutT
open Go.RowKit Go.Proofs.Ytnecipeckamiiaa.RVar Go.Proofs.Ytnecipeckamiiaa.QTextsAll Go.Proofs.YtnecipeckamiiaaW.PrintWords Go.Proofs.YtnecipeckamiiaaW.PrintLast Go.Proofs.YtnecipeckamiiaaW.PrintMore Go.Proofs.Ytnecipeckamiiaa.Num Go.Proofs.Ytnecipeckamiiaa.Bits Go.Proofs.Ytnecipeckamiiaa.VarM Go.Proofs.Ytnecipeckamiiaa.TextsT Go.Proofs.Ytnecipeckamiiaa.Hold Go.Proofs.Ytnecipeckamiiaa.HoldS Go.Proofs.Ytnecipeckamiiaa.CEach Go.Proofs.Ytnecipeckamiiaa.KDict Go.Proofs.Ytnecipeckamiiaa.CREach Go.Proofs.Ytnecipeckamiiaa.CPlace Go.Proofs.Ytnecipeckamiiaa.CDict Go.Proofs.Ytnecipeckamiiaa.CRDict
set_option linter.unusedVariables false
set_option linter.unusedSimpArgs false
attribute [local go_sem] max2_int min2_int max_two min_two max_three min_three max_four min_four

theorem dict_le (l : List ByteArray) (h : ∀ s ∈ l, s.size ≤ 1000) (hl : l.length ≤ 2000) : (dict l).length ≤ 3000000 := by
  have h1 := each_le (words [] l) 1000 (fun x hx => (words_mem l [] x hx).elim (fun h0 => by cases h0) (h x)) (by decide)
  have h2 := wheres_le l [] (by rw [List.length_nil]; omega)
  have h3 := words_length l []
  rw [List.length_nil, Nat.zero_add] at h3
  have h4 := pv_le10 (words [] l).length (by omega)
  rw [dict, List.length_append, List.length_append]
  omega
theorem put_1 {l : List ByteArray} (h : (dict l).length < (each l).length) : put l = (pv l.length ++ [1]) ++ dict l := by rw [put, if_pos h]; simp
theorem put_0 {l : List ByteArray} (h : ¬ (dict l).length < (each l).length) : put l = (pv l.length ++ [0]) ++ each l := by rw [put, if_neg h]; simp

set_option maxHeartbeats 8000000 in
set_option maxRecDepth 100000 in
theorem putC (A : Option Addr) (c : Nat) (l : List ByteArray) (w : World) (hr : Kd.C Kd.string w A l.length l) (hc : l.length ≤ c) (hl : l.length ≤ 2000) (hs : ∀ s ∈ l, s.size ≤ 1000) :
    Calls Try.prog 13 #[.slice A l.length c] w fun e w' => ∃ v, e = .returned v ∧ Kd.R (Kd.int .u8) 5 w' w.heap.size (fun _ => True) v (put l) ∧ Below w.heap.size w w' := by
  have HR := Aside0.mk hr
  have HS := Aside0.mk hs
  have hdl := Aside0.mk (dict_le l hs hl)
  have hel := Aside0.mk (each_le l 1000 hs (by decide))
  have hpl := Aside0.mk (pv_le10 l.length (by omega))
  clear hr hs
  have hwu : IntKind.u64.wrap (l.length : Int) = (l.length : Int) := wrap_u64_id (by omega) (by omega)
  by_cases hd : (dict l).length < (each l).length
  · have hput := Aside0.mk (put_1 hd)
    have hdb : decide ((dict l).length < (each l).length) = true := decide_eq_true hd
    have hdbi : decide (((dict l).length : Int) < ((each l).length : Int)) = true := decide_eq_true (by omega)
    have hdB := Aside0.mk hdb
    have hdBI := Aside0.mk hdbi
    clear hd hdb hdbi
    go_enter Try.func13, Try.ntmps13
    go_wp2_with (fail)
    refine (eachC A c l _ HR.out hc hl HS.out).mono ?_; rintro e w1 ⟨v, rfl, ho, hb⟩
    obtain ⟨Ae, ce, rfl, le, ho⟩ := R_C ho
    have HE := Aside0.mk ho
    have HB1 := Aside0.mk hb
    have HR1 := Aside0.mk (Kd.C_below HR.out hb)
    clear ho hb
    go_wp2_with (fail)
    refine (dictC A c l _ HR1.out hc hl HS.out).mono ?_; rintro e w2 ⟨v, rfl, ho, hb⟩
    obtain ⟨Ad, cd, rfl, ld, ho⟩ := R_C ho
    have HD := Aside0.mk ho
    have HB2 := Aside0.mk (below_step HB1.out hb)
    have HE2 := Aside0.mk (Kd.C_below HE.out hb)
    clear ho hb HR1 HE HB1
    generalize dict l = D at *
    generalize each l = E at *
    have hdb := hdB.out
    have hdbi := hdBI.out
    go_wp2_with (fail)
    refine (putVar (l.length : Int) (by omega) (by omega) _).mono ?_; rintro e w3 ⟨v, rfl, ho, hb⟩
    rw [Int.toNat_natCast] at ho
    have HO3 := Aside0.mk ho
    have HB3 := Aside0.mk hb
    clear ho hb hwu hdb hdbi
    generalize pv l.length = P at HO3 hput hpl
    go_wp2_with (first
      | (at_builtin; refine appendOne (k := .u8) (w0 := w2) rfl (.tmp 19) (.tmp 21) 25 5 1 rfl Try.underlying25 CEach.info_u8 (by decide) _ P 1 rfl rfl HO3.out HB3.out (by have := hpl.out; omega) ?_; intro v4 w4 ho4 hb4; have HO4 := Aside0.mk ho4; have HB4 := Aside0.mk hb4; have HR4 := Aside0.mk (Kd.C_below HD.out hb4); clear ho4 hb4)
      | (at_builtin; refine appendRow (k := .u8) (w0 := w2) rfl (.tmp 22) (.tmp 23) 25 5 1 rfl Try.underlying25 CEach.info_u8 (by decide) _ (P ++ [1]) D Ad D.length cd rfl rfl HO4.out HR4.out HB4.out (by have := hel.out; have := hdl.out; have := hpl.out; rw [List.length_append, List.length_singleton]; omega) ?_; intro v5 w5 ho5 hb5; have HO5 := Aside0.mk ho5; have HB5 := Aside0.mk hb5; clear ho5 hb5))
    go_ret
    exact ⟨_, rfl, by rw [hput.out]; exact Kd.R_lower HO5.out HB2.out.size, below_step HB2.out HB5.out⟩
  · have hput := Aside0.mk (put_0 hd)
    have hdb : decide ((dict l).length < (each l).length) = false := decide_eq_false hd
    have hdbi : decide (((dict l).length : Int) < ((each l).length : Int)) = false := decide_eq_false (by omega)
    have hdB := Aside0.mk hdb
    have hdBI := Aside0.mk hdbi
    clear hd hdb hdbi
    go_enter Try.func13, Try.ntmps13
    go_wp2_with (fail)
    refine (eachC A c l _ HR.out hc hl HS.out).mono ?_; rintro e w1 ⟨v, rfl, ho, hb⟩
    obtain ⟨Ae, ce, rfl, le, ho⟩ := R_C ho
    have HE := Aside0.mk ho
    have HB1 := Aside0.mk hb
    have HR1 := Aside0.mk (Kd.C_below HR.out hb)
    clear ho hb
    go_wp2_with (fail)
    refine (dictC A c l _ HR1.out hc hl HS.out).mono ?_; rintro e w2 ⟨v, rfl, ho, hb⟩
    obtain ⟨Ad, cd, rfl, ld, ho⟩ := R_C ho
    have HD := Aside0.mk ho
    have HB2 := Aside0.mk (below_step HB1.out hb)
    have HE2 := Aside0.mk (Kd.C_below HE.out hb)
    clear ho hb HR1 HE HB1
    generalize dict l = D at *
    generalize each l = E at *
    have hdb := hdB.out
    have hdbi := hdBI.out
    go_wp2_with (fail)
    refine (putVar (l.length : Int) (by omega) (by omega) _).mono ?_; rintro e w3 ⟨v, rfl, ho, hb⟩
    rw [Int.toNat_natCast] at ho
    have HO3 := Aside0.mk ho
    have HB3 := Aside0.mk hb
    clear ho hb hwu hdb hdbi
    generalize pv l.length = P at HO3 hput hpl
    go_wp2_with (first
      | (at_builtin; refine appendOne (k := .u8) (w0 := w2) rfl (.tmp 19) (.tmp 21) 25 5 1 rfl Try.underlying25 CEach.info_u8 (by decide) _ P 0 rfl rfl HO3.out HB3.out (by have := hpl.out; omega) ?_; intro v4 w4 ho4 hb4; have HO4 := Aside0.mk ho4; have HB4 := Aside0.mk hb4; have HR4 := Aside0.mk (Kd.C_below HE2.out hb4); clear ho4 hb4)
      | (at_builtin; refine appendRow (k := .u8) (w0 := w2) rfl (.tmp 22) (.tmp 23) 25 5 1 rfl Try.underlying25 CEach.info_u8 (by decide) _ (P ++ [0]) E Ae E.length ce rfl rfl HO4.out HR4.out HB4.out (by have := hel.out; have := hdl.out; have := hpl.out; rw [List.length_append, List.length_singleton]; omega) ?_; intro v5 w5 ho5 hb5; have HO5 := Aside0.mk ho5; have HB5 := Aside0.mk hb5; clear ho5 hb5))
    go_ret
    exact ⟨_, rfl, by rw [hput.out]; exact Kd.R_lower HO5.out HB2.out.size, below_step HB2.out HB5.out⟩

set_option maxHeartbeats 8000000 in
set_option maxRecDepth 100000 in
theorem refPutT (A : Option Addr) (c : Nat) (l : List ByteArray) (w : World) (hr : Kd.C Kd.string w A l.length l) (hc : l.length ≤ c) (hl : l.length ≤ 2000) (hs : ∀ s ∈ l, s.size ≤ 1000) :
    Calls Try.prog 19 #[.slice A l.length c] w fun e w' => ∃ v, e = .returned v ∧ Kd.R (Kd.int .u8) 5 w' w.heap.size (fun _ => True) v (put l) ∧ Below w.heap.size w w' := by
  have HR := Aside0.mk hr
  have HS := Aside0.mk hs
  have hdl := Aside0.mk (dict_le l hs hl)
  have hel := Aside0.mk (each_le l 1000 hs (by decide))
  have hpl := Aside0.mk (pv_le10 l.length (by omega))
  clear hr hs
  have hwu : IntKind.u64.wrap (l.length : Int) = (l.length : Int) := wrap_u64_id (by omega) (by omega)
  by_cases hd : (dict l).length < (each l).length
  · have hput := Aside0.mk (put_1 hd)
    have hdb : decide ((dict l).length < (each l).length) = true := decide_eq_true hd
    have hdbi : decide (((dict l).length : Int) < ((each l).length : Int)) = true := decide_eq_true (by omega)
    have hdB := Aside0.mk hdb
    have hdBI := Aside0.mk hdbi
    clear hd hdb hdbi
    go_enter Try.func19, Try.ntmps19
    go_wp2_with (fail)
    refine (refPut (l.length : Int) (by omega) (by omega) _).mono ?_; rintro e w1 ⟨v, rfl, ho, hb⟩
    rw [Int.toNat_natCast] at ho
    have HO1 := Aside0.mk ho
    have HB1 := Aside0.mk hb
    have HR1 := Aside0.mk (Kd.C_below HR.out hb)
    have hlt := Aside0.mk (fun j hj => own_lt (Kd.own_of_R ho) j hj)
    obtain ⟨Ap, cp, rfl, lp, hop⟩ := R_C ho
    clear ho hb hwu hop
    go_wp2_with (fail)
    refine (refDict A c l _ HR1.out hc hl HS.out).mono ?_; rintro e w2 ⟨v, rfl, ho, hb⟩
    obtain ⟨Ad, cd, rfl, ld, hod⟩ := R_C ho
    have HD := Aside0.mk ho
    have HB2 := Aside0.mk (below_step HB1.out hb)
    have HR2 := Aside0.mk (Kd.C_below HR1.out hb)
    have HO2 := Aside0.mk (Kd.R_below HO1.out hb)
    have hle := Aside0.mk hb.size
    clear ho hb hod HR1 HO1 HB1
    go_wp2_with (fail)
    refine (refEach A c l _ HR2.out hc hl HS.out).mono ?_; rintro e w3 ⟨v, rfl, ho, hb⟩
    obtain ⟨Ae, ce, rfl, le, hod⟩ := R_C ho
    have HE3 := Aside0.mk (Kd.R_lower ho hle.out)
    have HB3 := Aside0.mk (below_step HB2.out hb)
    have HD3 := Aside0.mk (Kd.R_below HD.out hb)
    have HO3 := Aside0.mk (Kd.R_below HO2.out hb)
    clear ho hb hod HR2 HO2 HB2 HD
    generalize dict l = D at *
    generalize each l = E at *
    generalize pv l.length = P at *
    have hdb := hdB.out
    have hdbi := hdBI.out
    go_wp2_with (first
      | (at_builtin; refine appendOneG (k := .u8) (w0 := w) rfl (.tmp 19) (.tmp 20) 25 5 1 rfl Try.underlying25 CEach.info_u8 (by decide) _ P 1 rfl rfl HO3.out HB3.out (by have := hpl.out; omega) ?_; intro v4 w4 ho4 hb4 hg4 hat; have HO4 := Aside0.mk ho4; have HB4 := Aside0.mk hb4; have HR4 := Aside0.mk (C_after HD3.out hlt.out hg4); clear ho4 hb4 hg4 hat)
      | (at_builtin; refine appendRow (k := .u8) (w0 := w) rfl (.tmp 21) (.tmp 22) 25 5 1 rfl Try.underlying25 CEach.info_u8 (by decide) _ (P ++ [1]) D Ad D.length cd rfl rfl HO4.out HR4.out HB4.out (by have := hel.out; have := hdl.out; have := hpl.out; rw [List.length_append, List.length_singleton]; omega) ?_; intro v5 w5 ho5 hb5; have HO5 := Aside0.mk ho5; have HB5 := Aside0.mk hb5; clear ho5 hb5))
    go_ret
    exact ⟨_, rfl, by rw [hput.out]; exact HO5.out, HB5.out⟩
  · have hput := Aside0.mk (put_0 hd)
    have hdb : decide ((dict l).length < (each l).length) = false := decide_eq_false hd
    have hdbi : decide (((dict l).length : Int) < ((each l).length : Int)) = false := decide_eq_false (by omega)
    have hdB := Aside0.mk hdb
    have hdBI := Aside0.mk hdbi
    clear hd hdb hdbi
    go_enter Try.func19, Try.ntmps19
    go_wp2_with (fail)
    refine (refPut (l.length : Int) (by omega) (by omega) _).mono ?_; rintro e w1 ⟨v, rfl, ho, hb⟩
    rw [Int.toNat_natCast] at ho
    have HO1 := Aside0.mk ho
    have HB1 := Aside0.mk hb
    have HR1 := Aside0.mk (Kd.C_below HR.out hb)
    have hlt := Aside0.mk (fun j hj => own_lt (Kd.own_of_R ho) j hj)
    obtain ⟨Ap, cp, rfl, lp, hop⟩ := R_C ho
    clear ho hb hwu hop
    go_wp2_with (fail)
    refine (refDict A c l _ HR1.out hc hl HS.out).mono ?_; rintro e w2 ⟨v, rfl, ho, hb⟩
    obtain ⟨Ad, cd, rfl, ld, hod⟩ := R_C ho
    have HD := Aside0.mk ho
    have HB2 := Aside0.mk (below_step HB1.out hb)
    have HR2 := Aside0.mk (Kd.C_below HR1.out hb)
    have HO2 := Aside0.mk (Kd.R_below HO1.out hb)
    have hle := Aside0.mk hb.size
    clear ho hb hod HR1 HO1 HB1
    go_wp2_with (fail)
    refine (refEach A c l _ HR2.out hc hl HS.out).mono ?_; rintro e w3 ⟨v, rfl, ho, hb⟩
    obtain ⟨Ae, ce, rfl, le, hod⟩ := R_C ho
    have HE3 := Aside0.mk (Kd.R_lower ho hle.out)
    have HB3 := Aside0.mk (below_step HB2.out hb)
    have HD3 := Aside0.mk (Kd.R_below HD.out hb)
    have HO3 := Aside0.mk (Kd.R_below HO2.out hb)
    clear ho hb hod HR2 HO2 HB2 HD
    generalize dict l = D at *
    generalize each l = E at *
    generalize pv l.length = P at *
    have hdb := hdB.out
    have hdbi := hdBI.out
    go_wp2_with (first
      | (at_builtin; refine appendOneG (k := .u8) (w0 := w) rfl (.tmp 24) (.tmp 25) 25 5 1 rfl Try.underlying25 CEach.info_u8 (by decide) _ P 0 rfl rfl HO3.out HB3.out (by have := hpl.out; omega) ?_; intro v4 w4 ho4 hb4 hg4 hat; have HO4 := Aside0.mk ho4; have HB4 := Aside0.mk hb4; have HR4 := Aside0.mk (C_after HE3.out hlt.out hg4); clear ho4 hb4 hg4 hat)
      | (at_builtin; refine appendRow (k := .u8) (w0 := w) rfl (.tmp 26) (.tmp 27) 25 5 1 rfl Try.underlying25 CEach.info_u8 (by decide) _ (P ++ [0]) E Ae E.length ce rfl rfl HO4.out HR4.out HB4.out (by have := hel.out; have := hdl.out; have := hpl.out; rw [List.length_append, List.length_singleton]; omega) ?_; intro v5 w5 ho5 hb5; have HO5 := Aside0.mk ho5; have HB5 := Aside0.mk hb5; clear ho5 hb5))
    go_ret
    exact ⟨_, rfl, by rw [hput.out]; exact HO5.out, HB5.out⟩

end Go.Proofs.Ytnecipeckamiiaa.CPutT

/- CFewT: The contracts of few and of shown. -/
namespace Go.Proofs.Ytnecipeckamiiaa.CFewT
open Go.RowKit Go.Proofs.Ytnecipeckamiiaa.RVar Go.Proofs.Ytnecipeckamiiaa.QTextsAll Go.Proofs.YtnecipeckamiiaaW.PrintWords Go.Proofs.YtnecipeckamiiaaW.PrintLast Go.Proofs.YtnecipeckamiiaaW.PrintMore Go.Proofs.Ytnecipeckamiiaa.Num Go.Proofs.Ytnecipeckamiiaa.Bits Go.Proofs.Ytnecipeckamiiaa.VarM Go.Proofs.Ytnecipeckamiiaa.TextsT Go.Proofs.Ytnecipeckamiiaa.Hold Go.Proofs.Ytnecipeckamiiaa.HoldS Go.Proofs.Ytnecipeckamiiaa.CEach Go.Proofs.Ytnecipeckamiiaa.KDict Go.Proofs.Ytnecipeckamiiaa.CPlace Go.Proofs.Ytnecipeckamiiaa.CPutT
set_option linter.unusedVariables false
set_option linter.unusedSimpArgs false
attribute [local go_sem] max2_int min2_int max_two min_two max_three min_three max_four min_four

def cut60 (s : ByteArray) : ByteArray := if s.size > 60 then s.extract 0 60 else s
def fewL (l : List ByteArray) : List ByteArray := (l.take 60).map cut60
theorem cut60_size (s : ByteArray) : (cut60 s).size ≤ 60 := by
  unfold cut60
  split
  · rw [ByteArray.size_extract]; omega
  · omega
theorem fewL_length (l : List ByteArray) : (fewL l).length ≤ 60 := by unfold fewL; rw [List.length_map, List.length_take]; omega
theorem fewL_size (l : List ByteArray) : ∀ s ∈ fewL l, s.size ≤ 60 := by
  intro s hs
  obtain ⟨t, _, rfl⟩ := List.mem_map.1 hs
  exact cut60_size t
theorem few_loop (l : List ByteArray) (hn : l.length < 10000000000000) (d : Nat) : ∀ (k i : Nat) (acc : List ByteArray), i + d = min l.length 60 → 2 * d + 2 < k → acc.length = i →
    thresherlaw06_few.l0 k l acc (i : Int) = some (acc ++ ((l.take 60).drop i).map cut60) := by
  induction d with
  | zero =>
    intro k i acc hi hk ha
    obtain ⟨k, rfl⟩ : ∃ m, k = m + 2 := ⟨k - 2, by omega⟩
    rw [List.drop_of_length_le (by rw [List.length_take]; omega), thresherlaw06_few.l0]
    split
    · rw [thresherlaw06_few.j1, if_neg (by simp; omega)]; simp
    · rw [thresherlaw06_few.j1, if_neg (by simp)]; simp
  | succ d ih =>
    intro k i acc hi hk ha
    obtain ⟨k, rfl⟩ : ∃ m, k = m + 2 := ⟨k - 2, by omega⟩
    have e : wrap64 ((i : Int) + 1) = ((i + 1 : Nat) : Int) := by rw [wrap64_id (by omega) (by omega)]; rfl
    have hd : (l.take 60).drop i = rdOf ByteArray.empty l (i : Int) :: (l.take 60).drop (i + 1) := by
      rw [List.drop_eq_getElem_cons (by rw [List.length_take]; omega)]
      simp [rdOf, List.getD_eq_getElem?_getD, show i < l.length by omega]
    rw [thresherlaw06_few.l0, if_pos (by omega), thresherlaw06_few.j1, if_pos (by simp; omega), if_pos (by omega), if_pos (by omega), hd, e, List.map_cons]
    by_cases h : ((rdOf ByteArray.empty l (i : Int)).size : Int) > 60
    · rw [if_pos h, if_pos (by omega), if_pos (by omega), if_pos (by omega), ih k (i + 1) _ (by omega) (by omega) (by simp [ha])]
      simp [cut60, show (rdOf ByteArray.empty l (i : Int)).size > 60 by omega]
    · rw [if_neg h, if_pos (by omega), ih k (i + 1) _ (by omega) (by omega) (by simp [ha])]
      simp [cut60, show ¬ (rdOf ByteArray.empty l (i : Int)).size > 60 by omega]
theorem fewC (A : Option Addr) (c : Nat) (l : List ByteArray) (w : World) (hr : Kd.C Kd.string w A l.length l) (hc : l.length ≤ c) (hn : l.length < 10000000000000) :
    Calls Try.prog 10 #[.slice A l.length c] w fun e w' => ∃ v, e = .returned v ∧ Kd.R Kd.string 9 w' w.heap.size (fun _ => True) v (fewL l) ∧ Below w.heap.size w w' := by
  refine thresherlaw06_few.calls (2 * 60 + 3) A c l (fewL l) w hr hc ?_
  unfold thresherlaw06_few.f
  rw [show (0 : Int) = ((0 : Nat) : Int) from rfl, few_loop l hn (min l.length 60) _ 0 [] (by omega) (by omega) rfl]
  simp [fewL]
theorem R_CS {e : Nat} {w : World} {base : Nat} {ok : Nat → Prop} {v : Value} {xs : List ByteArray} (h : Kd.R Kd.string e w base ok v xs) :
    ∃ A c, v = .slice A xs.length c ∧ xs.length ≤ c ∧ Kd.C Kd.string w A xs.length xs := Kd.R_reads h

/-! ### shown -/
def abc : ByteArray := ⟨#[97, 98, 99]⟩
theorem put_abc : strOfNums (put [abc, abc]) = ⟨#[2, 1, 1, 3, 97, 98, 99, 0, 0]⟩ := by
  have hb : bytesOf abc = [97, 98, 99] := rfl
  have hs : abc.size = 3 := rfl
  have hw : words [] [abc, abc] = [abc] := by simp [words, more]
  have hp : wheres [] [abc, abc] = [0, 0] := by simp [wheres, more, pv_small]
  have hd : dict [abc, abc] = [1, 3, 97, 98, 99, 0, 0] := by rw [dict, hw, hp]; simp [each, hb, hs, pv_small]
  have he : each [abc, abc] = [3, 97, 98, 99, 3, 97, 98, 99] := by simp [each, hb, hs, pv_small]
  have h : put [abc, abc] = [2, 1, 1, 3, 97, 98, 99, 0, 0] := by rw [put, hd, he]; simp [pv_small]
  rw [h]
  rfl
set_option maxHeartbeats 8000000 in
set_option maxRecDepth 100000 in
theorem shownC (w : World) : Calls Try.prog 9 #[] w fun e w' => e = .returned (.bool true) ∧ Below w.heap.size w w' := by
  have HC : Aside0 (Kd.C Kd.string (w.alloc (.cells #[.string abc, .string abc] 9)) (some ⟨w.heap.size, 0, none⟩) [abc, abc].length [abc, abc]) := by
    have h := World.ownsRow_lit (base := w.heap.size) (e := 9) (size := 1) w #[.string abc, .string abc] 2 (Nat.le_refl _) (by simp [maxLen]) (by simp)
    have h2 : Kd.R Kd.string 9 (w.alloc (.cells #[.string abc, .string abc] 9)) w.heap.size (fun _ => True) (.slice (some ⟨w.heap.size, 0, none⟩) 2 2) [abc, abc] := Kd.R_of_own (enc := Value.string) h (fun _ _ => trivial)
    exact ⟨(Kd.R_reads' h2).2.2⟩
  have HP := Aside0.mk put_abc
  go_enter Try.func9, Try.ntmps9
  go_wp2_with (fail)
  refine (putC (some ⟨w.heap.size, 0, none⟩) 2 [abc, abc] _ HC.out (by decide) (by decide) (by intro s hs; simp at hs; subst hs; decide)).mono ?_; rintro e w1 ⟨v, rfl, ho, hb⟩
  obtain ⟨Ap, cp, rfl, lp, ho⟩ := R_C ho
  have hst := toStr1 (P := Try.prog) cp Try.underlying25 Try.underlying5 Try.underlying9 ho
  rw [HP.out] at hst
  have HB := Aside0.mk (below_then (below_alloc (Below.refl w.heap.size w) _) (by simp) hb)
  clear ho hb
  go_wp2_with (fail)
  go_ret
  exact ⟨rfl, HB.out⟩

end Go.Proofs.Ytnecipeckamiiaa.CFewT

/- KRd: The reader of texts.Take in memory. -/
namespace Go.Proofs.Ytnecipeckamiiaa.KRd
open Go.RowKit Go.Proofs.YtnecipeckamiiaaW.PrintWords Go.Proofs.YtnecipeckamiiaaW.PrintLast Go.Proofs.YtnecipeckamiiaaW.PrintMore Go.Proofs.Ytnecipeckamiiaa.Num Go.Proofs.Ytnecipeckamiiaa.Bits Go.Proofs.Ytnecipeckamiiaa.VarM Go.Proofs.Ytnecipeckamiiaa.TextsT Go.Proofs.Ytnecipeckamiiaa.Hold Go.Proofs.Ytnecipeckamiiaa.HoldS Go.Proofs.Ytnecipeckamiiaa.RdM
set_option linter.unusedVariables false

/-- Block g is a reader of these bytes, which lie in an elder block. -/
structure Rd (w : World) (g : Nat) (A : Option Addr) (c : Nat) (b : List Int) (bad : Bool) : Prop where
  blk : w.heap[g]? = some (.cells #[.slice A b.length c, .bool bad] 45 (0, 0))
  cap : b.length ≤ c
  row : Kd.C (Kd.int .u8) w A b.length b
  elder : ∀ ad, A = some ad → 0 < b.length → ad.block < g
def RdE (w : World) (g : Nat) (b : List Int) (bad : Bool) : Prop := ∃ A c, Rd w g A c b bad
section
variable {w w' : World} {g : Nat} {A : Option Addr} {c : Nat} {b : List Int} {bad : Bool}
theorem Rd.cell0 (h : Rd w g A c b bad) : w.cell? ⟨g, 0, none⟩ = some (.slice A b.length c) := by rw [cell_of_row w g 0 _ _ (0, 0) h.blk]; rfl
theorem Rd.cell1 (h : Rd w g A c b bad) : w.cell? ⟨g, 1, none⟩ = some (.bool bad) := by rw [cell_of_row w g 1 _ _ (0, 0) h.blk]; rfl
theorem Rd.frozen (h : Rd w g A c b bad) (j : Nat) : w.frozen? ⟨g, j, none⟩ = false := blk_frozen h.blk j
theorem Rd.lt (h : Rd w g A c b bad) : g < w.heap.size := (Array.getElem?_eq_some_iff.1 h.blk).1
theorem C_grown {k : IntKind} {A : Option Addr} {n : Nat} {xs : List Int} {row : Option Nat} (h : Kd.C (Kd.int k) w A n xs) (hg : w.grownBy w' row) (hne : ∀ ad, A = some ad → 0 < n → some ad.block ≠ row) : Kd.C (Kd.int k) w' A n xs := by
  have hr := Kd.reads_of_C (enc := Value.int k) (d := (0 : Int)) (h1 := fun _ => rfl) h
  refine Kd.C_of_reads (d := (0 : Int)) (h1 := fun _ => rfl) ⟨hr.1, hr.2.1, fun hn => ?_⟩
  obtain ⟨ad, e, hc⟩ := hr.2.2 hn
  refine ⟨ad, e, fun j hj => ?_⟩
  refine cell_grown hg (hc j hj) ?_
  rw [add_block]
  exact hne ad e hn
theorem C_grownS {A : Option Addr} {n : Nat} {xs : List ByteArray} {row : Option Nat} (h : Kd.C Kd.string w A n xs) (hg : w.grownBy w' row) (hne : ∀ ad, A = some ad → 0 < n → some ad.block ≠ row) : Kd.C Kd.string w' A n xs := by
  have hr := Kd.reads_of_C (enc := Value.string) (d := ByteArray.empty) (h1 := fun _ => rfl) h
  refine Kd.C_of_reads (d := ByteArray.empty) (h1 := fun _ => rfl) ⟨hr.1, hr.2.1, fun hn => ?_⟩
  obtain ⟨ad, e, hc⟩ := hr.2.2 hn
  refine ⟨ad, e, fun j hj => ?_⟩
  refine cell_grown hg (hc j hj) ?_
  rw [add_block]
  exact hne ad e hn
/-- The world goes on, this reader's block apart from what was written. -/
theorem Rd.grown (h : Rd w g A c b bad) {row : Option Nat} (hg : w.grownBy w' row) (hrow : ∀ k, row = some k → g < k) : Rd w' g A c b bad :=
  ⟨(hg.block g h.lt (fun e => by have := hrow g e.symm; omega)).trans h.blk, h.cap, C_grown h.row hg (fun ad e hn e2 => by have h1 := h.elder ad e hn; have h2 := hrow _ e2.symm; omega), h.elder⟩
theorem Rd.below (h : Rd w g A c b bad) (hb : Below w.heap.size w w') : Rd w' g A c b bad := h.grown (grown_of_below hb none) (fun k hk => by cases hk)
theorem grown_set (w : World) (g j : Nat) (v : Value) : w.grownBy (w.setCell ⟨g, j, none⟩ v) (some g) :=
  ⟨rfl, rfl, rfl, by simp, fun i _ hi => Below.heap_setCell _ _ _ _ (fun e => hi (by rw [e]))⟩
/-- It is marked as bad. -/
theorem Rd.mark (h : Rd w g A c b bad) : Rd (w.setCell ⟨g, 1, none⟩ (.bool true)) g A c b true :=
  ⟨by rw [blk_set h.blk 1]; rfl, h.cap, C_grown h.row (grown_set w g 1 _) (fun ad e hn e2 => by have h1 := h.elder ad e hn; injection e2 with e2; omega), h.elder⟩
/-- What is read is left. -/
theorem Rd.drop (h : Rd w g A c b bad) (k : Nat) (hk : k ≤ b.length) (v : Value) (hv : v = .slice (if c = k then A else A.map (·.add (k * 1))) (b.drop k).length (c - k)) :
    RdE (w.setCell ⟨g, 0, none⟩ v) g (b.drop k) bad := by
  subst hv
  refine ⟨_, _, by rw [blk_set h.blk 0]; rfl, by have := h.cap; rw [List.length_drop]; omega, ?_, ?_⟩
  · exact Kd.C_drop (C_grown h.row (grown_set w g 0 _) (fun ad e hn e2 => by have h1 := h.elder ad e hn; injection e2 with e2; omega)) (by omega) h.cap
  · intro ad e hn
    rw [List.length_drop] at hn
    split at e
    · exact h.elder ad e (by omega)
    · obtain ⟨a0, e0, rfl⟩ := Option.map_eq_some_iff.1 e
      rw [add_block]
      exact h.elder a0 e0 (by omega)
end
end Go.Proofs.Ytnecipeckamiiaa.KRd

/- CNumber: The contract of the reader's number. -/
namespace Go.Proofs.Ytnecipeckamiiaa.CNumber
open Go.RowKit Go.Proofs.YtnecipeckamiiaaW.PrintWords Go.Proofs.YtnecipeckamiiaaW.PrintLast Go.Proofs.YtnecipeckamiiaaW.PrintMore Go.Proofs.Ytnecipeckamiiaa.Num Go.Proofs.Ytnecipeckamiiaa.Bits Go.Proofs.Ytnecipeckamiiaa.VarM Go.Proofs.Ytnecipeckamiiaa.TextsT Go.Proofs.Ytnecipeckamiiaa.Hold Go.Proofs.Ytnecipeckamiiaa.HoldS Go.Proofs.Ytnecipeckamiiaa.RdM Go.Proofs.Ytnecipeckamiiaa.KRd
open Go.Proofs.Ytnecipeckamiiaa.CVar (varC)
set_option linter.unusedVariables false
set_option linter.unusedSimpArgs false
attribute [local go_sem] max2_int min2_int max_two min_two max_three min_three max_four min_four

/-- What the call of a reader's method leaves. -/
structure LeftBy (w w' : World) (g : Nat) (b : List Int) (bad : Bool) : Prop where
  rd : RdE w' g b bad
  grown : w.grownBy w' (some g)
theorem LeftBy.mark {w W : World} {g : Nat} {A : Option Addr} {c : Nat} {b : List Int} {bad : Bool} (h : Rd W g A c b bad) (hg : w.grownBy W (some g)) : LeftBy w (W.setCell ⟨g, 1, none⟩ (.bool true)) g b true := ⟨⟨_, _, h.mark⟩, hg.trans (grown_set W g 1 _)⟩
theorem grown_drawn {w w' : World} {row : Option Nat} (h : Drawn0 w w') : w.grownBy w' row := grown_of_below h.below row

set_option maxHeartbeats 8000000 in
set_option maxRecDepth 100000 in
theorem number_bad (g : Nat) (A : Option Addr) (c : Nat) (b : List Int) (bad : Bool) (below : Int) (w : World) (H : Rd w g A c b bad) (hb : Bytes b) (hn : b.length < 1000000000) (hB0 : 0 ≤ below) (hB1 : below ≤ 1000000) (n p : Int) (hv : var b = (n, p)) (hnr : 0 ≤ n ∧ n ≤ 18446744073709551615) (hpr : 0 ≤ p ∧ p ≤ b.length) (hbad : bad = true) :
    Calls Try.prog 21 #[.pointer (some ⟨g, 0, none⟩), .int .i64 below] w fun e w' => e = .returned (.int .i64 0) ∧ LeftBy w w' g b true := by
  subst hbad
  have HV := Aside0.mk (fun W h => varC A c b W h H.cap hb (by omega))
  rw [hv] at HV
  have HH := Aside0.mk H
  have c0 := H.cell0
  have c1 := H.cell1
  clear hv hb H
  have hwu : IntKind.u64.wrap below = below := wrap_u64_id (by omega) (by omega)
  go_enter Try.func21, Try.ntmps21
  go_wp2_with (fail)
  refine (HV.out _ HH.out.row).mono ?_; rintro e w1 ⟨rfl, hdr⟩
  have H1 := Aside0.mk (HH.out.below hdr.below)
  have HG := Aside0.mk (grown_drawn (row := some g) hdr)
  clear hdr c0 c1 HV
  have c0 := H1.out.cell0
  have c1 := H1.out.cell1
  have f0 := H1.out.frozen 0
  have f1 := H1.out.frozen 1
  go_wp2_with (fail)
  go_ret
  exact ⟨rfl, LeftBy.mark H1.out HG.out⟩

set_option maxHeartbeats 8000000 in
set_option maxRecDepth 100000 in
theorem number_zero (g : Nat) (A : Option Addr) (c : Nat) (b : List Int) (bad : Bool) (below : Int) (w : World) (H : Rd w g A c b bad) (hb : Bytes b) (hn : b.length < 1000000000) (hB0 : 0 ≤ below) (hB1 : below ≤ 1000000) (n p : Int) (hv : var b = (n, p)) (hnr : 0 ≤ n ∧ n ≤ 18446744073709551615) (hpr : 0 ≤ p ∧ p ≤ b.length) (hbad : bad = false) (h0 : p = 0) :
    Calls Try.prog 21 #[.pointer (some ⟨g, 0, none⟩), .int .i64 below] w fun e w' => e = .returned (.int .i64 0) ∧ LeftBy w w' g b true := by
  subst hbad
  have HV := Aside0.mk (fun W h => varC A c b W h H.cap hb (by omega))
  rw [hv] at HV
  have HH := Aside0.mk H
  have c0 := H.cell0
  have c1 := H.cell1
  clear hv hb H
  subst h0
  have hwu : IntKind.u64.wrap below = below := wrap_u64_id (by omega) (by omega)
  go_enter Try.func21, Try.ntmps21
  go_wp2_with (fail)
  refine (HV.out _ HH.out.row).mono ?_; rintro e w1 ⟨rfl, hdr⟩
  have H1 := Aside0.mk (HH.out.below hdr.below)
  have HG := Aside0.mk (grown_drawn (row := some g) hdr)
  clear hdr c0 c1 HV
  have c0 := H1.out.cell0
  have c1 := H1.out.cell1
  have f0 := H1.out.frozen 0
  have f1 := H1.out.frozen 1
  go_wp2_with (fail)
  go_ret
  exact ⟨rfl, LeftBy.mark H1.out HG.out⟩

set_option maxHeartbeats 8000000 in
set_option maxRecDepth 100000 in
theorem number_big (g : Nat) (A : Option Addr) (c : Nat) (b : List Int) (bad : Bool) (below : Int) (w : World) (H : Rd w g A c b bad) (hb : Bytes b) (hn : b.length < 1000000000) (hB0 : 0 ≤ below) (hB1 : below ≤ 1000000) (n p : Int) (hv : var b = (n, p)) (hnr : 0 ≤ n ∧ n ≤ 18446744073709551615) (hpr : 0 ≤ p ∧ p ≤ b.length) (hbad : bad = false) (h0 : p ≠ 0) (h1 : n ≥ below) :
    Calls Try.prog 21 #[.pointer (some ⟨g, 0, none⟩), .int .i64 below] w fun e w' => e = .returned (.int .i64 0) ∧ LeftBy w w' g b true := by
  subst hbad
  have HV := Aside0.mk (fun W h => varC A c b W h H.cap hb (by omega))
  rw [hv] at HV
  have HH := Aside0.mk H
  have c0 := H.cell0
  have c1 := H.cell1
  clear hv hb H
  have hp0 : (p == 0) = false := beq_eq_false_iff_ne.mpr h0
  have hge : decide (below ≤ n) = true := decide_eq_true h1
  have HNR := Aside0.mk hnr
  clear hnr h0 h1
  have hwu : IntKind.u64.wrap below = below := wrap_u64_id (by omega) (by omega)
  go_enter Try.func21, Try.ntmps21
  go_wp2_with (fail)
  refine (HV.out _ HH.out.row).mono ?_; rintro e w1 ⟨rfl, hdr⟩
  have H1 := Aside0.mk (HH.out.below hdr.below)
  have HG := Aside0.mk (grown_drawn (row := some g) hdr)
  clear hdr c0 c1 HV
  have c0 := H1.out.cell0
  have c1 := H1.out.cell1
  have f0 := H1.out.frozen 0
  have f1 := H1.out.frozen 1
  go_wp2_with (fail)
  go_ret
  exact ⟨rfl, LeftBy.mark H1.out HG.out⟩

set_option maxHeartbeats 8000000 in
set_option maxRecDepth 100000 in
theorem number_ok (g : Nat) (A : Option Addr) (c : Nat) (b : List Int) (bad : Bool) (below : Int) (w : World) (H : Rd w g A c b bad) (hb : Bytes b) (hn : b.length < 1000000000) (hB0 : 0 ≤ below) (hB1 : below ≤ 1000000) (n p : Int) (hv : var b = (n, p)) (hnr : 0 ≤ n ∧ n ≤ 18446744073709551615) (hpr : 0 ≤ p ∧ p ≤ b.length) (hbad : bad = false) (h0 : p ≠ 0) (h1 : ¬ n ≥ below) :
    Calls Try.prog 21 #[.pointer (some ⟨g, 0, none⟩), .int .i64 below] w fun e w' => e = .returned (.int .i64 n) ∧ LeftBy w w' g (b.drop p.toNat) false := by
  subst hbad
  have HV := Aside0.mk (fun W h => varC A c b W h H.cap hb (by omega))
  rw [hv] at HV
  have HH := Aside0.mk H
  have c0 := H.cell0
  have c1 := H.cell1
  clear hv hb H
  have hp0 : (p == 0) = false := beq_eq_false_iff_ne.mpr h0
  have hge : decide (below ≤ n) = false := decide_eq_false h1
  have hn0 := hnr.1
  have hn1 : n ≤ 1000000 := by omega
  have HNR := Aside0.mk hnr
  clear hnr h0 h1
  have hwu : IntKind.u64.wrap below = below := wrap_u64_id (by omega) (by omega)
  have hwi : wrap64 n = n := wrap64_id (by omega) (by omega)
  obtain ⟨i0, hi0, _, hs0, _⟩ := info_parts CEach.info_u8
  have hcut := fun W => cut_from (P := Try.prog) 25 5 .i64 Try.underlying25 hi0 1 hs0 A b.length c p hpr.1 hpr.2 W
  clear hi0 hs0
  obtain ⟨V, hV⟩ : ∃ V : Option Addr, V = (if c = p.toNat then A else A.map (·.add (p.toNat * 1))) := ⟨_, rfl⟩
  rw [← hV] at hcut
  have HVV := Aside0.mk hV
  clear hV
  go_enter Try.func21, Try.ntmps21
  go_wp2_with (fail)
  refine (HV.out _ HH.out.row).mono ?_; rintro e w1 ⟨rfl, hdr⟩
  have H1 := Aside0.mk (HH.out.below hdr.below)
  have HG := Aside0.mk (grown_drawn (row := some g) hdr)
  clear hdr c0 c1 HV
  have c0 := H1.out.cell0
  have c1 := H1.out.cell1
  have f0 := H1.out.frozen 0
  have f1 := H1.out.frozen 1
  go_wp2_with (fail)
  go_ret
  have hd := H1.out.drop p.toNat (by omega) _ (by rw [List.length_drop, ← HVV.out])
  exact ⟨rfl, hd, HG.out.trans (grown_set w1 g 0 _)⟩

theorem numberC (g : Nat) (A : Option Addr) (c : Nat) (b : List Int) (bad : Bool) (below : Int) (w : World) (H : Rd w g A c b bad) (hb : Bytes b) (hn : b.length < 1000000000) (hB0 : 0 ≤ below) (hB1 : below ≤ 1000000) :
    Calls Try.prog 21 #[.pointer (some ⟨g, 0, none⟩), .int .i64 below] w fun e w' => e = .returned (.int .i64 (numM b bad below).1) ∧ LeftBy w w' g (numM b bad below).2.1 (numM b bad below).2.2 := by
  have hr := var_range hb
  cases bad with
  | true =>
    rw [show numM b true below = (0, b, true) from if_pos (.inl rfl)]
    exact number_bad g A c b true below w H hb hn hB0 hB1 _ _ rfl ⟨hr.1, hr.2.1⟩ ⟨hr.2.2.1, hr.2.2.2.1⟩ rfl
  | false =>
    by_cases h0 : (var b).2 = 0
    · rw [numM_bad (.inl h0)]
      exact number_zero g A c b false below w H hb hn hB0 hB1 _ _ rfl ⟨hr.1, hr.2.1⟩ ⟨hr.2.2.1, hr.2.2.2.1⟩ rfl h0
    · by_cases h1 : (var b).1 ≥ below
      · rw [numM_bad (.inr h1)]
        exact number_big g A c b false below w H hb hn hB0 hB1 _ _ rfl ⟨hr.1, hr.2.1⟩ ⟨hr.2.2.1, hr.2.2.2.1⟩ rfl h0 h1
      · rw [numM_ok (fun h => h.elim h0 h1)]
        exact number_ok g A c b false below w H hb hn hB0 hB1 _ _ rfl ⟨hr.1, hr.2.1⟩ ⟨hr.2.2.1, hr.2.2.2.1⟩ rfl h0 h1
theorem numM_range {b : List Int} (hb : Bytes b) (bad : Bool) {below : Int} (h0 : 0 ≤ below) : 0 ≤ (numM b bad below).1 ∧ (numM b bad below).1 ≤ below := by
  have hr := var_range hb
  unfold numM
  split
  · exact ⟨Int.le_refl _, h0⟩
  · rename_i h
    simp only
    omega

end Go.Proofs.Ytnecipeckamiiaa.CNumber

/- CText: The contract of the reader's text. -/
namespace Go.Proofs.Ytnecipeckamiiaa.CText
open Go.RowKit Go.Proofs.YtnecipeckamiiaaW.PrintWords Go.Proofs.YtnecipeckamiiaaW.PrintLast Go.Proofs.YtnecipeckamiiaaW.PrintMore Go.Proofs.Ytnecipeckamiiaa.Num Go.Proofs.Ytnecipeckamiiaa.Bits Go.Proofs.Ytnecipeckamiiaa.VarM Go.Proofs.Ytnecipeckamiiaa.TextsT Go.Proofs.Ytnecipeckamiiaa.Hold Go.Proofs.Ytnecipeckamiiaa.HoldS Go.Proofs.Ytnecipeckamiiaa.RdM Go.Proofs.Ytnecipeckamiiaa.KRd Go.Proofs.Ytnecipeckamiiaa.CNumber
set_option linter.unusedVariables false
set_option linter.unusedSimpArgs false
attribute [local go_sem] max2_int min2_int max_two min_two max_three min_three max_four min_four

set_option maxHeartbeats 8000000 in
set_option maxRecDepth 100000 in
theorem text_bad (g : Nat) (w : World) (n : Int) (b1 : List Int) (bad1 : Bool) (hn0 : 0 ≤ n) (hn1 : n ≤ 61) (HN : Calls Try.prog 21 #[.pointer (some ⟨g, 0, none⟩), .int .i64 61] w fun e w' => e = .returned (.int .i64 n) ∧ LeftBy w w' g b1 bad1) (hbad : bad1 = true) :
    Calls Try.prog 22 #[.pointer (some ⟨g, 0, none⟩)] w fun e w' => e = .returned (.string ByteArray.empty) ∧ LeftBy w w' g b1 true := by
  subst hbad
  have HNN := Aside0.mk HN
  clear HN
  go_enter Try.func22, Try.ntmps22
  go_wp2_with (fail)
  refine (HNN.out).mono ?_; rintro e w1 ⟨rfl, ⟨⟨A1, cc, hR⟩, hG⟩⟩
  have H1 := Aside0.mk hR
  have HG := Aside0.mk hG
  clear hR hG HNN
  have c0 := H1.out.cell0
  have c1 := H1.out.cell1
  have f0 := H1.out.frozen 0
  have f1 := H1.out.frozen 1
  go_wp2_with (fail)
  go_ret
  exact ⟨rfl, LeftBy.mark H1.out HG.out⟩

set_option maxHeartbeats 8000000 in
set_option maxRecDepth 100000 in
theorem text_short (g : Nat) (w : World) (n : Int) (b1 : List Int) (bad1 : Bool) (hn0 : 0 ≤ n) (hn1 : n ≤ 61) (HN : Calls Try.prog 21 #[.pointer (some ⟨g, 0, none⟩), .int .i64 61] w fun e w' => e = .returned (.int .i64 n) ∧ LeftBy w w' g b1 bad1) (hbad : bad1 = false) (h1 : (b1.length : Int) < n) :
    Calls Try.prog 22 #[.pointer (some ⟨g, 0, none⟩)] w fun e w' => e = .returned (.string ByteArray.empty) ∧ LeftBy w w' g b1 true := by
  subst hbad
  have HNN := Aside0.mk HN
  clear HN
  have hgt : decide ((b1.length : Int) < n) = true := decide_eq_true h1
  clear h1
  go_enter Try.func22, Try.ntmps22
  go_wp2_with (fail)
  refine (HNN.out).mono ?_; rintro e w1 ⟨rfl, ⟨⟨A1, cc, hR⟩, hG⟩⟩
  have H1 := Aside0.mk hR
  have HG := Aside0.mk hG
  clear hR hG HNN
  have c0 := H1.out.cell0
  have c1 := H1.out.cell1
  have f0 := H1.out.frozen 0
  have f1 := H1.out.frozen 1
  go_wp2_with (fail)
  go_ret
  exact ⟨rfl, LeftBy.mark H1.out HG.out⟩

set_option maxHeartbeats 8000000 in
set_option maxRecDepth 100000 in
theorem text_ok (g : Nat) (w : World) (n : Int) (b1 : List Int) (bad1 : Bool) (hn0 : 0 ≤ n) (hn1 : n ≤ 61) (HN : Calls Try.prog 21 #[.pointer (some ⟨g, 0, none⟩), .int .i64 61] w fun e w' => e = .returned (.int .i64 n) ∧ LeftBy w w' g b1 bad1) (hbad : bad1 = false) (h1 : ¬ (b1.length : Int) < n) :
    Calls Try.prog 22 #[.pointer (some ⟨g, 0, none⟩)] w fun e w' => e = .returned (.string (strOfNums (b1.take n.toNat))) ∧ LeftBy w w' g (b1.drop n.toNat) false := by
  subst hbad
  have HNN := Aside0.mk HN
  clear HN
  have hgt : decide ((b1.length : Int) < n) = false := decide_eq_false h1
  replace h1 : n ≤ (b1.length : Int) := by omega
  go_enter Try.func22, Try.ntmps22
  go_wp2_with (fail)
  refine (HNN.out).mono ?_; rintro e w1 ⟨rfl, ⟨⟨A1, cc, hR⟩, hG⟩⟩
  have H1 := Aside0.mk hR
  have HG := Aside0.mk hG
  clear hR hG HNN
  have c0 := H1.out.cell0
  have c1 := H1.out.cell1
  have f0 := H1.out.frozen 0
  have f1 := H1.out.frozen 1
  have hcap := H1.out.cap
  have hcutT := cutTo (P := Try.prog) 25 5 Try.underlying25 CEach.info_u8 A1 b1.length cc n hn0 h1 hcap
  obtain ⟨i0, hi0, _, hs0, _⟩ := info_parts CEach.info_u8
  have hcut := fun W => cut_from (P := Try.prog) 25 5 .i64 Try.underlying25 hi0 1 hs0 A1 b1.length cc n hn0 h1 W
  clear hi0 hs0
  obtain ⟨V, hV⟩ : ∃ V : Option Addr, V = (if cc = n.toNat then A1 else A1.map (·.add (n.toNat * 1))) := ⟨_, rfl⟩
  rw [← hV] at hcut
  have HVV := Aside0.mk hV
  clear hV
  have ht : (b1.take n.toNat).length = n.toNat := by rw [List.length_take]; omega
  have hst := Kd.C_take (m := n.toNat) H1.out.row (by omega)
  rw [ht] at hst
  have hst1 := toStr1 (P := Try.prog) cc Try.underlying25 Try.underlying5 Try.underlying9 hst
  clear hst ht
  go_wp2_with (fail)
  go_ret
  have hd := H1.out.drop n.toNat (by omega) _ (by rw [List.length_drop, ← HVV.out])
  exact ⟨rfl, hd, HG.out.trans (grown_set w1 g 0 _)⟩

theorem textC (g : Nat) (A : Option Addr) (c : Nat) (b : List Int) (bad : Bool) (w : World) (H : Rd w g A c b bad) (hb : Bytes b) (hn : b.length < 1000000000) :
    Calls Try.prog 22 #[.pointer (some ⟨g, 0, none⟩)] w fun e w' => e = .returned (.string (textM b bad).1) ∧ LeftBy w w' g (textM b bad).2.1 (textM b bad).2.2 := by
  have hN := numberC g A c b bad 61 w H hb hn (by omega) (by omega)
  have hr := numM_range hb bad (below := 61) (by omega)
  unfold textM
  generalize numM b bad 61 = q at *
  obtain ⟨n, b1, bad1⟩ := q
  simp only at hN hr ⊢
  cases bad1 with
  | true =>
    rw [if_pos (.inl rfl)]
    exact text_bad g w n b1 true hr.1 hr.2 hN rfl
  | false =>
    by_cases h1 : (b1.length : Int) < n
    · rw [if_pos (.inr h1)]
      exact text_short g w n b1 false hr.1 hr.2 hN rfl h1
    · rw [if_neg (fun h => h.elim (by decide) h1)]
      exact text_ok g w n b1 false hr.1 hr.2 hN rfl h1

end Go.Proofs.Ytnecipeckamiiaa.CText

/- CSome: The contract of the reader's some. -/
namespace Go.Proofs.Ytnecipeckamiiaa.CSome
open Go.RowKit Go.Proofs.YtnecipeckamiiaaW.PrintWords Go.Proofs.YtnecipeckamiiaaW.PrintLast Go.Proofs.YtnecipeckamiiaaW.PrintMore Go.Proofs.Ytnecipeckamiiaa.Num Go.Proofs.Ytnecipeckamiiaa.Bits Go.Proofs.Ytnecipeckamiiaa.VarM Go.Proofs.Ytnecipeckamiiaa.TextsT Go.Proofs.Ytnecipeckamiiaa.Hold Go.Proofs.Ytnecipeckamiiaa.HoldS Go.Proofs.Ytnecipeckamiiaa.RdM Go.Proofs.Ytnecipeckamiiaa.KRd Go.Proofs.Ytnecipeckamiiaa.CNumber Go.Proofs.Ytnecipeckamiiaa.CText
open Go.Proofs.Ytnecipeckamiiaa.KDict (R_nilS)
open Go.Proofs.Ytnecipeckamiiaa.CEach (info_str)
set_option linter.unusedVariables false
set_option linter.unusedSimpArgs false
attribute [local go_sem] max2_int min2_int max_two min_two max_three min_three max_four min_four

theorem someM_stop (step : List Int → Bool → ByteArray × List Int × Bool) (b : List Int) (bad : Bool) (i n : Nat) (h : i ≤ n) (hb : (someM step i b bad).2.2 = true) : someM step n b bad = someM step i b bad := by
  induction n with
  | zero => obtain rfl : i = 0 := by omega
            rfl
  | succ n ih =>
    by_cases e : i = n + 1
    · rw [e]
    · have h1 := ih (by omega)
      rw [someM_snoc, h1, if_pos hb]
theorem grown_more {w W W1 : World} {g : Nat} {row : Option Nat} (h : w.grownBy W (some g)) (hg : W.grownBy W1 row) (hrow : ∀ k, row = some k → w.heap.size ≤ k) : w.grownBy W1 (some g) :=
  ⟨hg.os.trans h.os, hg.tape.trans h.tape, hg.output.trans h.output, Nat.le_trans h.size hg.size, fun i hi hne => (hg.block i (Nat.lt_of_lt_of_le hi h.size) (fun e => by have := hrow i e.symm; omega)).trans (h.block i hi hne)⟩
section
variable {ops : Array Oper} {rest : List Oper} {o : Oper} {a : Act} {Q : Exit → Act → World → Prop}
/-- append(v, s), texts; the row is younger than a world of one's choice. -/
theorem appendOneB {W : World} (base : Nat) (hbase : base ≤ W.heap.size) (hgd : o.guard = none) (s x : Operand)
    (ho : o.op = .call { callee := .builtin .append, args := #[s, x], argTypes := #[22, 22] })
    (v : Value) (xs : List ByteArray) (y : ByteArray) (hs : a.eval s = v) (hx : a.eval x = .slice (some ⟨W.heap.size, 0, none⟩) 1 1)
    (HO : Kd.R Kd.string 9 W base (fun _ => True) v xs) (hl : (xs.length + 1) * 16 ≤ 140737488355328)
    (h : ∀ v1 w1, Kd.R Kd.string 9 w1 base (fun _ => True) v1 (xs ++ [y]) → W.grownBy w1 v.ownBlock → wpList Try.prog ops Q rest (a.put o.dst v1) w1) :
    wpList Try.prog ops Q (o :: rest) a (W.alloc (.cells #[.string y] 9)) :=
  Kd.R_append Kd.string (w0 := W) base hgd s x 22 9 (.string ⟨#[]⟩) 16 ho Try.underlying22 info_str rfl Nat.one_pos (by decide) v xs y [.string y] (fun _ => True) (fun _ => False) hs hx rfl
    (fun _ h => h.elim) (fun _ _ => trivial) HO (Below.refl _ _) hbase hl (fun v1 w1 hr hb hg _ => h v1 w1 hr hg)
end

set_option maxHeartbeats 8000000 in
set_option maxRecDepth 100000 in
theorem some_text (g n : Nat) (A : Option Addr) (c : Nat) (b : List Int) (bad : Bool) (w : World) (hn : n ≤ 3000) (H : Rd w g A c b bad) (hb : Bytes b) (hbl : b.length < 1000000000)  :
    Calls Try.prog 23 #[.pointer (some ⟨g, 0, none⟩), .int .i64 n, (.func (.func 22) #[.pointer (some ⟨g, 0, none⟩)] #[])] w fun e w' => ∃ v, e = .returned v ∧ Kd.R Kd.string 9 w' w.heap.size (fun _ => True) v (someM textM n b bad).1 ∧ LeftBy w w' g (someM textM n b bad).2.1 (someM textM n b bad).2.2 := by
  have HH := Aside0.mk H
  have HBY := Aside0.mk hb
  have HGT := Aside0.mk H.lt
  clear H hb
  go_enter Try.func23, Try.ntmps23
  go_wp2_with (fail)
  go_loopw [7, 8] (fun v7 v8 wr => ∃ i : Nat, v8 = .int .i64 i ∧ i ≤ n ∧ Aside0 (Kd.R Kd.string 9 wr w.heap.size (fun _ => True) v7 (someM textM i b bad).1) ∧ Aside0 (LeftBy w wr g (someM textM i b bad).2.1 (someM textM i b bad).2.2)) (fun _ v8 _ => n - (intOf v8).toNat)
  case atStart => exact ⟨0, by go_num, by omega, ⟨R_nilS _ _⟩, ⟨⟨⟨A, c, HH.out⟩, World.grownBy.refl w _⟩⟩⟩
  case round =>
    obtain ⟨i, rfl, hin, HO, HL⟩ := hrel
    have hbi := Aside0.mk (someM_bytes (step := textM) (fun b bad h => textM_bytes h bad) i b bad HBY.out)
    have hli := Aside0.mk (someM_len (step := textM) textM_len i b bad)
    have hki := Aside0.mk (someM_length textM i b bad)
    have hsn := Aside0.mk (someM_snoc textM i b bad)
    have hst := Aside0.mk (fun h => someM_stop textM b bad i n hin h)
    obtain ⟨Q, hQ⟩ : ∃ Q, someM textM i b bad = Q := ⟨_, rfl⟩
    rw [hQ] at HO HL hbi hli hki hsn hst
    have HQ := Aside0.mk hQ
    clear hQ
    obtain ⟨l, bi, badi⟩ := Q
    obtain ⟨⟨Ai, ci, hR⟩, hG⟩ := HL.out
    simp only at hR HO
    have HR := Aside0.mk hR
    have HG := Aside0.mk hG
    have c1 := hR.cell1
    clear hR hG HL
    by_cases hi : i < n
    · have hiI : (i : Int) < (n : Int) := by omega
      cases badi with
      | true =>
        go_wp2_with (fail)
        go_ret
        exact ⟨_, rfl, by rw [hst.out (by first | rfl | trivial)]; exact HO.out, ⟨by rw [hst.out (by first | rfl | trivial)]; exact ⟨Ai, ci, HR.out⟩, HG.out⟩⟩
      | false =>
        go_wp2_with (fail)
        refine (textC g Ai ci bi false _ HR.out hbi.out (by have := hli.out; (try simp only at this); omega)).mono ?_; rintro e w1 ⟨rfl, hL1⟩
        have hG1 := HG.out.trans hL1.grown
        have hO1 := Kd.R_grown2 HO.out rfl hL1.grown (fun k hk e_ => by injection hk with hk; subst hk; have := Kd.R_base HO.out _ e_.symm; have := HGT.out; omega)
        obtain ⟨⟨A2, cc, hR2⟩, _⟩ := hL1
        have hsn2 := hsn.out
        rw [if_neg (by simp)] at hsn2
        try simp only at hsn2
        generalize textM bi false = qq at *
        obtain ⟨s, b2, bad2⟩ := qq
        simp only at hR2 hsn2 ⊢
        have HR2 := Aside0.mk hR2
        have HG1 := Aside0.mk hG1
        have HO1 := Aside0.mk hO1
        have HSN := Aside0.mk hsn2
        have hle := Aside0.mk hG1.size
        clear hR2 hG1 hO1 hsn2 hsn hst HR HG c1 HO
        go_wp2_with (at_builtin; refine appendOneB w.heap.size hle.out rfl (.tmp 21) (.tmp 24) rfl _ l s rfl rfl HO1.out (by have := hki.out; (try simp only at this); omega) ?_; intro v2 w2 ho2 hg2; have HO2 := Aside0.mk ho2; have HG2 := Aside0.mk (grown_more HG1.out hg2 (Kd.R_base HO1.out)); have HR3 := Aside0.mk (HR2.out.grown hg2 (fun k hk => by have := Kd.R_base HO1.out k hk; have := HGT.out; omega)); clear ho2 hg2)
        go_roundw
        case rel => exact ⟨i + 1, by go_num, by omega, ⟨by rw [HSN.out]; exact HO2.out⟩, ⟨⟨by rw [HSN.out]; exact ⟨A2, cc, HR3.out⟩, HG2.out⟩⟩⟩
        case measure => simp [intOf]; omega
    · obtain rfl : i = n := by omega
      go_wp2_with (fail)
      go_ret
      exact ⟨_, rfl, by rw [HQ.out]; exact HO.out, ⟨by rw [HQ.out]; exact ⟨Ai, ci, HR.out⟩, HG.out⟩⟩


end Go.Proofs.Ytnecipeckamiiaa.CSome

/- CPlaceT: The contract of the closure in texts.Take, and of the reader's some over it. -/
namespace Go.Proofs.Ytnecipeckamiiaa.CPlaceT
open Go.RowKit Go.Proofs.YtnecipeckamiiaaW.PrintWords Go.Proofs.YtnecipeckamiiaaW.PrintLast Go.Proofs.YtnecipeckamiiaaW.PrintMore Go.Proofs.Ytnecipeckamiiaa.Num Go.Proofs.Ytnecipeckamiiaa.Bits Go.Proofs.Ytnecipeckamiiaa.VarM Go.Proofs.Ytnecipeckamiiaa.TextsT Go.Proofs.Ytnecipeckamiiaa.Hold Go.Proofs.Ytnecipeckamiiaa.HoldS Go.Proofs.Ytnecipeckamiiaa.RdM Go.Proofs.Ytnecipeckamiiaa.KRd Go.Proofs.Ytnecipeckamiiaa.CNumber Go.Proofs.Ytnecipeckamiiaa.CText Go.Proofs.Ytnecipeckamiiaa.CSome
open Go.Proofs.Ytnecipeckamiiaa.KDict (R_nilS)
set_option linter.unusedVariables false
set_option linter.unusedSimpArgs false
attribute [local go_sem] max2_int min2_int max_two min_two max_three min_three max_four min_four

/-- The variables that the closure holds: the reader, and the words. -/
structure Env (w : World) (g p4 p8 : Nat) (Aw : Option Addr) (cw : Nat) (ws : List ByteArray) : Prop where
  ne4 : p4 ≠ g
  ne8 : p8 ≠ g
  c4 : w.cell? ⟨p4, 0, none⟩ = some (.pointer (some ⟨g, 0, none⟩))
  c8 : w.cell? ⟨p8, 0, none⟩ = some (.slice Aw ws.length cw)
  cap : ws.length ≤ cw
  row : Kd.C Kd.string w Aw ws.length ws
  far : ∀ ad, Aw = some ad → 0 < ws.length → ad.block ≠ g
theorem Env.grown {w w' : World} {g p4 p8 : Nat} {Aw : Option Addr} {cw : Nat} {ws : List ByteArray} (h : Env w g p4 p8 Aw cw ws) (hg : w.grownBy w' (some g)) : Env w' g p4 p8 Aw cw ws :=
  ⟨h.ne4, h.ne8, cell_grown hg h.c4 (fun e => by injection e with e; exact h.ne4 e), cell_grown hg h.c8 (fun e => by injection e with e; exact h.ne8 e), h.cap, C_grownS h.row hg (fun ad e hn e2 => by injection e2 with e2; exact h.far ad e hn e2), h.far⟩
theorem Env.below {w w' : World} {g p4 p8 : Nat} {Aw : Option Addr} {cw : Nat} {ws : List ByteArray} (h : Env w g p4 p8 Aw cw ws) (hb : Below w.heap.size w w') : Env w' g p4 p8 Aw cw ws := h.grown (grown_of_below hb _)

set_option maxHeartbeats 8000000 in
set_option maxRecDepth 100000 in
theorem place_bad (g p4 p8 : Nat) (Aw : Option Addr) (cw : Nat) (ws : List ByteArray) (w : World) (HE : Env w g p4 p8 Aw cw ws) (n : Int) (b1 : List Int) (bad1 : Bool) (hn0 : 0 ≤ n) (HN : Calls Try.prog 21 #[.pointer (some ⟨g, 0, none⟩), .int .i64 ws.length] w fun e w' => e = .returned (.int .i64 n) ∧ LeftBy w w' g b1 bad1) (hbad : bad1 = true) :
    Calls Try.prog 24 #[.pointer (some ⟨p4, 0, none⟩), .pointer (some ⟨p8, 0, none⟩)] w fun e w' => e = .returned (.string ByteArray.empty) ∧ LeftBy w w' g b1 true := by
  subst hbad
  have HNN := Aside0.mk HN
  have HH := Aside0.mk HE
  have e4 := HE.c4
  have e8 := HE.c8
  clear HN HE
  go_enter Try.func24, Try.ntmps24
  go_wp2_with (fail)
  refine (HNN.out).mono ?_; rintro e w1 ⟨rfl, ⟨⟨A1, cc, hR⟩, hG⟩⟩
  have H1 := Aside0.mk hR
  have HG := Aside0.mk hG
  have HH1 := Aside0.mk (HH.out.grown hG)
  clear hR hG HNN e4 e8
  have e4 := HH1.out.c4
  have e8 := HH1.out.c8
  have c1 := H1.out.cell1
  go_wp2_with (fail)
  go_ret
  exact ⟨rfl, ⟨⟨A1, cc, H1.out⟩, HG.out⟩⟩

set_option maxHeartbeats 8000000 in
set_option maxRecDepth 100000 in
theorem place_ok (g p4 p8 : Nat) (Aw : Option Addr) (cw : Nat) (ws : List ByteArray) (w : World) (HE : Env w g p4 p8 Aw cw ws) (n : Int) (b1 : List Int) (bad1 : Bool) (hn0 : 0 ≤ n) (HN : Calls Try.prog 21 #[.pointer (some ⟨g, 0, none⟩), .int .i64 ws.length] w fun e w' => e = .returned (.int .i64 n) ∧ LeftBy w w' g b1 bad1) (hbad : bad1 = false) (hk : n < (ws.length : Int)) :
    Calls Try.prog 24 #[.pointer (some ⟨p4, 0, none⟩), .pointer (some ⟨p8, 0, none⟩)] w fun e w' => e = .returned (.string (ws.getD n.toNat ByteArray.empty)) ∧ LeftBy w w' g b1 false := by
  subst hbad
  have HNN := Aside0.mk HN
  have HH := Aside0.mk HE
  have e4 := HE.c4
  have e8 := HE.c8
  clear HN HE
  go_enter Try.func24, Try.ntmps24
  go_wp2_with (fail)
  refine (HNN.out).mono ?_; rintro e w1 ⟨rfl, ⟨⟨A1, cc, hR⟩, hG⟩⟩
  have H1 := Aside0.mk hR
  have HG := Aside0.mk hG
  have HH1 := Aside0.mk (HH.out.grown hG)
  clear hR hG HNN e4 e8
  have e4 := HH1.out.c4
  have e8 := HH1.out.c8
  have c1 := H1.out.cell1
  obtain ⟨aw, rfl, hcell⟩ := Kd.at_string HH1.out.row n hn0 hk
  go_wp2_with (fail)
  go_ret
  exact ⟨rfl, ⟨⟨A1, cc, H1.out⟩, HG.out⟩⟩

theorem placeC (g p4 p8 : Nat) (Aw : Option Addr) (cw : Nat) (ws : List ByteArray) (A : Option Addr) (c : Nat) (b : List Int) (bad : Bool) (w : World) (HE : Env w g p4 p8 Aw cw ws) (hws : ws.length ≤ 2001) (H : Rd w g A c b bad) (hb : Bytes b) (hn : b.length < 1000000000) :
    Calls Try.prog 24 #[.pointer (some ⟨p4, 0, none⟩), .pointer (some ⟨p8, 0, none⟩)] w fun e w' => e = .returned (.string (placeM ws b bad).1) ∧ LeftBy w w' g (placeM ws b bad).2.1 (placeM ws b bad).2.2 := by
  have hN := numberC g A c b bad ws.length w H hb hn (by omega) (by omega)
  have hr := numM_range hb bad (below := (ws.length : Int)) (by omega)
  have hlt : (numM b bad ws.length).2.2 = false → (numM b bad ws.length).1 < (ws.length : Int) := by
    unfold numM
    split
    · intro h; cases h
    · rename_i h; intro _; simp only; omega
  unfold placeM
  generalize numM b bad ws.length = q at *
  obtain ⟨n, b1, bad1⟩ := q
  simp only at hN hr hlt ⊢
  cases bad1 with
  | true =>
    rw [if_pos rfl]
    exact place_bad g p4 p8 Aw cw ws w HE n b1 true hr.1 hN rfl
  | false =>
    rw [if_neg (by decide)]
    exact place_ok g p4 p8 Aw cw ws w HE n b1 false hr.1 hN rfl (hlt rfl)

set_option maxHeartbeats 8000000 in
set_option maxRecDepth 100000 in
theorem some_place (g n : Nat) (p4 p8 : Nat) (Aw : Option Addr) (cw : Nat) (ws : List ByteArray) (hws : ws.length ≤ 2001) (A : Option Addr) (c : Nat) (b : List Int) (bad : Bool) (w : World) (hn : n ≤ 3000) (HE : Env w g p4 p8 Aw cw ws) (H : Rd w g A c b bad) (hb : Bytes b) (hbl : b.length < 1000000000) :
    Calls Try.prog 23 #[.pointer (some ⟨g, 0, none⟩), .int .i64 n, (.func (.func 24) #[] #[.pointer (some ⟨p4, 0, none⟩), .pointer (some ⟨p8, 0, none⟩)])] w fun e w' => ∃ v, e = .returned v ∧ Kd.R Kd.string 9 w' w.heap.size (fun _ => True) v (someM (placeM ws) n b bad).1 ∧ LeftBy w w' g (someM (placeM ws) n b bad).2.1 (someM (placeM ws) n b bad).2.2 := by
  have HENV := Aside0.mk HE
  clear HE
  have HH := Aside0.mk H
  have HBY := Aside0.mk hb
  have HGT := Aside0.mk H.lt
  clear H hb
  go_enter Try.func23, Try.ntmps23
  go_wp2_with (fail)
  go_loopw [7, 8] (fun v7 v8 wr => ∃ i : Nat, v8 = .int .i64 i ∧ i ≤ n ∧ Aside0 (Kd.R Kd.string 9 wr w.heap.size (fun _ => True) v7 (someM (placeM ws) i b bad).1) ∧ Aside0 (LeftBy w wr g (someM (placeM ws) i b bad).2.1 (someM (placeM ws) i b bad).2.2)) (fun _ v8 _ => n - (intOf v8).toNat)
  case atStart => exact ⟨0, by go_num, by omega, ⟨R_nilS _ _⟩, ⟨⟨⟨A, c, HH.out⟩, World.grownBy.refl w _⟩⟩⟩
  case round =>
    obtain ⟨i, rfl, hin, HO, HL⟩ := hrel
    have hbi := Aside0.mk (someM_bytes (step := (placeM ws)) (fun b bad h => placeM_bytes ws h bad) i b bad HBY.out)
    have hli := Aside0.mk (someM_len (step := (placeM ws)) (placeM_len ws) i b bad)
    have hki := Aside0.mk (someM_length (placeM ws) i b bad)
    have hsn := Aside0.mk (someM_snoc (placeM ws) i b bad)
    have hst := Aside0.mk (fun h => someM_stop (placeM ws) b bad i n hin h)
    obtain ⟨Q, hQ⟩ : ∃ Q, someM (placeM ws) i b bad = Q := ⟨_, rfl⟩
    rw [hQ] at HO HL hbi hli hki hsn hst
    have HQ := Aside0.mk hQ
    clear hQ
    obtain ⟨l, bi, badi⟩ := Q
    obtain ⟨⟨Ai, ci, hR⟩, hG⟩ := HL.out
    simp only at hR HO
    have HR := Aside0.mk hR
    have HG := Aside0.mk hG
    have c1 := hR.cell1
    clear hR hG HL
    by_cases hi : i < n
    · have hiI : (i : Int) < (n : Int) := by omega
      cases badi with
      | true =>
        go_wp2_with (fail)
        go_ret
        exact ⟨_, rfl, by rw [hst.out (by first | rfl | trivial)]; exact HO.out, ⟨by rw [hst.out (by first | rfl | trivial)]; exact ⟨Ai, ci, HR.out⟩, HG.out⟩⟩
      | false =>
        go_wp2_with (fail)
        refine (placeC g p4 p8 Aw cw ws Ai ci bi false _ (HENV.out.grown HG.out) hws HR.out hbi.out (by have := hli.out; (try simp only at this); omega)).mono ?_; rintro e w1 ⟨rfl, hL1⟩
        have hG1 := HG.out.trans hL1.grown
        have hO1 := Kd.R_grown2 HO.out rfl hL1.grown (fun k hk e_ => by injection hk with hk; subst hk; have := Kd.R_base HO.out _ e_.symm; have := HGT.out; omega)
        obtain ⟨⟨A2, cc, hR2⟩, _⟩ := hL1
        have hsn2 := hsn.out
        rw [if_neg (by simp)] at hsn2
        try simp only at hsn2
        generalize (placeM ws) bi false = qq at *
        obtain ⟨s, b2, bad2⟩ := qq
        simp only at hR2 hsn2 ⊢
        have HR2 := Aside0.mk hR2
        have HG1 := Aside0.mk hG1
        have HO1 := Aside0.mk hO1
        have HSN := Aside0.mk hsn2
        have hle := Aside0.mk hG1.size
        clear hR2 hG1 hO1 hsn2 hsn hst HR HG c1 HO
        go_wp2_with (at_builtin; refine appendOneB w.heap.size hle.out rfl (.tmp 21) (.tmp 24) rfl _ l s rfl rfl HO1.out (by have := hki.out; (try simp only at this); omega) ?_; intro v2 w2 ho2 hg2; have HO2 := Aside0.mk ho2; have HG2 := Aside0.mk (grown_more HG1.out hg2 (Kd.R_base HO1.out)); have HR3 := Aside0.mk (HR2.out.grown hg2 (fun k hk => by have := Kd.R_base HO1.out k hk; have := HGT.out; omega)); clear ho2 hg2)
        go_roundw
        case rel => exact ⟨i + 1, by go_num, by omega, ⟨by rw [HSN.out]; exact HO2.out⟩, ⟨⟨by rw [HSN.out]; exact ⟨A2, cc, HR3.out⟩, HG2.out⟩⟩⟩
        case measure => simp [intOf]; omega
    · obtain rfl : i = n := by omega
      go_wp2_with (fail)
      go_ret
      exact ⟨_, rfl, by rw [HQ.out]; exact HO.out, ⟨by rw [HQ.out]; exact ⟨Ai, ci, HR.out⟩, HG.out⟩⟩


end Go.Proofs.Ytnecipeckamiiaa.CPlaceT

/- KTake: What the walk of texts.Take carries. -/
namespace Go.Proofs.Ytnecipeckamiiaa.KTake
open Go.RowKit Go.Proofs.YtnecipeckamiiaaW.PrintWords Go.Proofs.YtnecipeckamiiaaW.PrintLast Go.Proofs.YtnecipeckamiiaaW.PrintMore Go.Proofs.Ytnecipeckamiiaa.Num Go.Proofs.Ytnecipeckamiiaa.Bits Go.Proofs.Ytnecipeckamiiaa.VarM Go.Proofs.Ytnecipeckamiiaa.TextsT Go.Proofs.Ytnecipeckamiiaa.Hold Go.Proofs.Ytnecipeckamiiaa.HoldS Go.Proofs.Ytnecipeckamiiaa.RdM Go.Proofs.Ytnecipeckamiiaa.KRd Go.Proofs.Ytnecipeckamiiaa.CNumber Go.Proofs.Ytnecipeckamiiaa.CText Go.Proofs.Ytnecipeckamiiaa.CSome Go.Proofs.Ytnecipeckamiiaa.CPlaceT
set_option linter.unusedVariables false

theorem numberE (g : Nat) (b : List Int) (bad : Bool) (below : Int) (w : World) (H : RdE w g b bad) (hb : Bytes b) (hn : b.length < 1000000000) (hB0 : 0 ≤ below) (hB1 : below ≤ 1000000) (x : Int) (b1 : List Int) (bad1 : Bool) (hx : numM b bad below = (x, b1, bad1)) :
    Calls Try.prog 21 #[.pointer (some ⟨g, 0, none⟩), .int .i64 below] w fun e w' => e = .returned (.int .i64 x) ∧ LeftBy w w' g b1 bad1 := by
  obtain ⟨A, c, h⟩ := H
  have h2 := numberC g A c b bad below w h hb hn hB0 hB1
  rw [hx] at h2
  exact h2
theorem someTextE (g n : Nat) (b : List Int) (bad : Bool) (w : World) (hn : n ≤ 3000) (H : RdE w g b bad) (hb : Bytes b) (hbl : b.length < 1000000000) (l : List ByteArray) (b1 : List Int) (bad1 : Bool) (hx : someM textM n b bad = (l, b1, bad1)) :
    Calls Try.prog 23 #[.pointer (some ⟨g, 0, none⟩), .int .i64 n, (.func (.func 22) #[.pointer (some ⟨g, 0, none⟩)] #[])] w fun e w' => ∃ v, e = .returned v ∧ Kd.R Kd.string 9 w' w.heap.size (fun _ => True) v l ∧ LeftBy w w' g b1 bad1 := by
  obtain ⟨A, c, h⟩ := H
  have h2 := some_text g n A c b bad w hn h hb hbl
  rw [hx] at h2
  exact h2
theorem somePlaceE (g n p4 p8 : Nat) (Aw : Option Addr) (cw : Nat) (ws : List ByteArray) (hws : ws.length ≤ 2001) (b : List Int) (bad : Bool) (w : World) (hn : n ≤ 3000) (HE : Env w g p4 p8 Aw cw ws) (H : RdE w g b bad) (hb : Bytes b) (hbl : b.length < 1000000000) (l : List ByteArray) (b1 : List Int) (bad1 : Bool) (hx : someM (placeM ws) n b bad = (l, b1, bad1)) :
    Calls Try.prog 23 #[.pointer (some ⟨g, 0, none⟩), .int .i64 n, (.func (.func 24) #[] #[.pointer (some ⟨p4, 0, none⟩), .pointer (some ⟨p8, 0, none⟩)])] w fun e w' => ∃ v, e = .returned v ∧ Kd.R Kd.string 9 w' w.heap.size (fun _ => True) v l ∧ LeftBy w w' g b1 bad1 := by
  obtain ⟨A, c, h⟩ := H
  have h2 := some_place g n p4 p8 Aw cw ws hws A c b bad w hn HE h hb hbl
  rw [hx] at h2
  exact h2

/-- The reader (block g) and the variable that holds it (block g + 1), both made by this call. -/
structure TInv (w0 W : World) (b : List Int) (bad : Bool) : Prop where
  below : Below w0.heap.size w0 W
  rd : RdE W w0.heap.size b bad
  c4 : W.cell? ⟨w0.heap.size + 1, 0, none⟩ = some (.pointer (some ⟨w0.heap.size, 0, none⟩))
section
variable {w0 W W1 : World} {b b1 : List Int} {bad bad1 : Bool}
theorem TInv.start (w : World) (A : Option Addr) (c : Nat) (b : List Int) (hr : Kd.C (Kd.int .u8) w A b.length b) (hc : b.length ≤ c) :
    TInv w ((w.alloc (.cells #[.slice A b.length c, .bool false] 45)).alloc (.cells #[.pointer (some ⟨w.heap.size, 0, none⟩)] 43)) b false := by
  have h1 : Rd (w.alloc (.cells #[.slice A b.length c, .bool false] 45)) w.heap.size A c b false :=
    ⟨heap_alloc_new w _, hc, Kd.C_alloc hr _, fun ad e hn => by
      obtain ⟨ad2, e2, h⟩ := C_cells hr hn
      have h3 := World.block_lt_of_cell? w _ (h 0 hn)
      rw [e] at e2
      injection e2 with e2
      subst e2
      rw [add_block] at h3
      exact h3⟩
  refine ⟨below_alloc (below_alloc (Below.refl _ _) _) _, ⟨A, c, h1.below (below_alloc (Below.refl _ _) _)⟩, ?_⟩
  rw [cell_of_row _ _ 0 #[.pointer (some ⟨w.heap.size, 0, none⟩)] 43 (0, 0) (by have := heap_alloc_new (w.alloc (.cells #[.slice A b.length c, .bool false] 45)) (.cells #[.pointer (some ⟨w.heap.size, 0, none⟩)] 43); simpa using this)]
  rfl
theorem TInv.step (h : TInv w0 W b bad) (hb : Below W.heap.size W W1) : TInv w0 W1 b bad := by
  obtain ⟨A, c, hr⟩ := h.rd
  exact ⟨below_step h.below hb, ⟨A, c, hr.below hb⟩, pw_cell_below hb h.c4⟩
theorem TInv.left (h : TInv w0 W b bad) (hl : LeftBy W W1 w0.heap.size b1 bad1) : TInv w0 W1 b1 bad1 :=
  ⟨h.below.grown hl.grown h.below.size (fun k hk => by injection hk with hk; omega), hl.rd, cell_grown hl.grown h.c4 (fun e => by injection e with e; simp only at e; omega)⟩
theorem TInv.base (h : TInv w0 W b bad) : w0.heap.size + 2 ≤ W.heap.size := by
  have := World.block_lt_of_cell? W _ h.c4
  simp only at this
  omega
end
theorem box_cell0 {W : World} {g : Nat} {v : Value} {t : TypeId} (h : W.heap[g]? = some (.cells #[v] t (0, 0))) : W.cell? ⟨g, 0, none⟩ = some v := by
  rw [cell_of_row W g 0 _ t (0, 0) h]
  rfl
/-- Behind the words: where they stand, and the variable that is to hold them. -/
structure TWords (w0 W : World) (v : Value) (p8 : Nat) (ws : List ByteArray) (b : List Int) (bad : Bool) : Prop where
  inv : TInv w0 W b bad
  row : Kd.R Kd.string 9 W (w0.heap.size + 2) (fun _ => True) v ws
  blk : W.heap[p8]? = some (.cells #[.slice none 0 0] 22 (0, 0))
  new : w0.heap.size + 2 ≤ p8
section
variable {w0 W W1 W2 : World} {b b1 b2 : List Int} {bad bad1 bad2 : Bool} {v : Value} {ws : List ByteArray}
/-- The variable is made first, or between the two calls. -/
theorem TWords.of_first {p8 : Nat} (h : TInv w0 W b bad) (hblk : W.heap[p8]? = some (.cells #[.slice none 0 0] 22 (0, 0))) (hnew : w0.heap.size + 2 ≤ p8)
    (hr : Kd.R Kd.string 9 W1 W.heap.size (fun _ => True) v ws) (hl : LeftBy W W1 w0.heap.size b1 bad1) : TWords w0 W1 v p8 ws b1 bad1 :=
  ⟨h.left hl, Kd.R_lower hr h.base, (hl.grown.block p8 (Array.getElem?_eq_some_iff.1 hblk).1 (fun e => by injection e with e; omega)).trans hblk, hnew⟩
theorem blk_left {p8 : Nat} (hl : LeftBy W W1 w0.heap.size b1 bad1) (hblk : W.heap[p8]? = some (.cells #[.slice none 0 0] 22 (0, 0))) (hnew : w0.heap.size + 2 ≤ p8) : W1.heap[p8]? = some (.cells #[.slice none 0 0] 22 (0, 0)) :=
  (hl.grown.block p8 (Array.getElem?_eq_some_iff.1 hblk).1 (fun e => by injection e with e; omega)).trans hblk
/-- It is made last. -/
theorem TWords.of_last (h : TInv w0 W b bad) (hr : Kd.R Kd.string 9 W1 W.heap.size (fun _ => True) v ws) (hl : LeftBy W W1 w0.heap.size b1 bad1) :
    TWords w0 (W1.alloc (.cells #[.slice none 0 0] 22)) v W1.heap.size ws b1 bad1 :=
  have h1 := h.left hl
  ⟨h1.step (below_alloc (Below.refl _ _) _), Kd.R_alloc (Kd.R_lower hr h.base) _, heap_alloc_new W1 _, h1.base⟩
/-- The words are stored: the closure's variables. -/
theorem TWords.env {p8 : Nat} {A : Option Addr} {c : Nat} (h : TWords w0 W (.slice A ws.length c) p8 ws b bad) :
    TInv w0 (W.setCell ⟨p8, 0, none⟩ (.slice A ws.length c)) b bad ∧ Env (W.setCell ⟨p8, 0, none⟩ (.slice A ws.length c)) w0.heap.size (w0.heap.size + 1) p8 A c ws := by
  have hg := grown_set W p8 0 (.slice A ws.length c)
  have hnew := h.new
  have hr := Kd.R_reads' h.row
  have hfar : ∀ ad, A = some ad → 0 < ws.length → ad.block ≠ p8 ∧ w0.heap.size + 2 ≤ ad.block := fun ad e hn => by
    have hown := Kd.own_of_R h.row
    subst e
    have hob : (Value.slice (some ad) ws.length c).ownBlock = some ad.block := rfl
    refine ⟨fun e2 => ?_, own_base hown _ hob⟩
    obtain ⟨cells, hc⟩ := own_typed hown _ hob
    rw [e2, h.blk] at hc
    injection hc with hc
    injection hc with _ hc
    exact absurd hc (by decide)
  obtain ⟨A0, c0, hrd⟩ := h.inv.rd
  refine ⟨⟨h.inv.below.grown hg h.inv.below.size (fun k hk => by injection hk with hk; omega), ⟨A0, c0, hrd.grown hg (fun k hk => by injection hk with hk; omega)⟩, cell_grown hg h.inv.c4 (fun e => by injection e with e; simp only at e; omega)⟩, ?_⟩
  refine ⟨by omega, by omega, cell_grown hg h.inv.c4 (fun e => by injection e with e; simp only at e; omega), ?_, hr.2.1, C_grownS hr.2.2 hg (fun ad e hn e2 => by injection e2 with e2; exact (hfar ad e hn).1 e2), fun ad e hn => by have := (hfar ad e hn).2; omega⟩
  rw [cell_of_row _ p8 0 _ _ (0, 0) (blk_set h.blk 0 _)]
  rfl
end
end Go.Proofs.Ytnecipeckamiiaa.KTake

/- CTakeT: The contract of texts.Take. -/
namespace Go.Proofs.Ytnecipeckamiiaa.CTakeT
open Go.RowKit Go.Proofs.YtnecipeckamiiaaW.PrintWords Go.Proofs.YtnecipeckamiiaaW.PrintLast Go.Proofs.YtnecipeckamiiaaW.PrintMore Go.Proofs.Ytnecipeckamiiaa.Num Go.Proofs.Ytnecipeckamiiaa.Bits Go.Proofs.Ytnecipeckamiiaa.VarM Go.Proofs.Ytnecipeckamiiaa.TextsT Go.Proofs.Ytnecipeckamiiaa.Hold Go.Proofs.Ytnecipeckamiiaa.HoldS Go.Proofs.Ytnecipeckamiiaa.RdM Go.Proofs.Ytnecipeckamiiaa.KRd Go.Proofs.Ytnecipeckamiiaa.CNumber Go.Proofs.Ytnecipeckamiiaa.CText Go.Proofs.Ytnecipeckamiiaa.CSome Go.Proofs.Ytnecipeckamiiaa.CPlaceT Go.Proofs.Ytnecipeckamiiaa.KTake
open Go.Proofs.Ytnecipeckamiiaa.CPutT (putC)
open Go.Proofs.Ytnecipeckamiiaa.CFewT (R_CS)
set_option linter.unusedVariables false
set_option linter.unusedSimpArgs false
attribute [local go_sem] max2_int min2_int max_two min_two max_three min_three max_four min_four

set_option maxHeartbeats 8000000 in
set_option maxRecDepth 100000 in
theorem guard_bad (A : Option Addr) (c : Nat) (b : List Int) (w : World) (hr : Kd.C (Kd.int .u8) w A b.length b) (hc : b.length ≤ c) (hb : Bytes b) (hl : b.length < 1000000000) (n : Nat) (b1 : List Int) (bad1 : Bool) (hnum : numM b false 2001 = ((n : Int), b1, bad1)) (hbad : bad1 = true) :
    Calls Try.prog 14 #[.slice A b.length c] w fun e w' => e = .returned (.tuple #[.slice none 0 0, .int .i64 10]) ∧ Below w.heap.size w w' := by
  have HS := Aside0.mk (TInv.start w A c b hr hc)
  have HR := Aside0.mk hr
  have HBY := Aside0.mk hb
  have HLN := Aside0.mk hl
  subst hbad
  have HN := Aside0.mk (fun W h => numberE w.heap.size b false 2001 W h HBY.out HLN.out (by omega) (by omega) _ _ _ hnum)
  clear hr hb hl
  go_enter Try.func14, Try.ntmps14
  go_wp2_with (fail)
  refine (HN.out _ HS.out.rd).mono ?_; rintro e w1 ⟨rfl, hL⟩
  have H1 := Aside0.mk (HS.out.left hL)
  clear hL HN HS
  obtain ⟨A1, cc, hrd⟩ := H1.out.rd
  have c4 := H1.out.c4
  have d0 := hrd.cell0
  have d1 := hrd.cell1
  have f0 := hrd.frozen 0
  have hcap := hrd.cap
  have HRD := Aside0.mk hrd
  clear hrd
  go_wp2_with (fail)
  go_ret2
  exact ⟨rfl, H1.out.below⟩

set_option maxHeartbeats 8000000 in
set_option maxRecDepth 100000 in
theorem guard_empty (A : Option Addr) (c : Nat) (b : List Int) (w : World) (hr : Kd.C (Kd.int .u8) w A b.length b) (hc : b.length ≤ c) (hb : Bytes b) (hl : b.length < 1000000000) (n : Nat) (b1 : List Int) (bad1 : Bool) (hnum : numM b false 2001 = ((n : Int), b1, bad1)) (hbad : bad1 = false) (h1 : b1 = []) :
    Calls Try.prog 14 #[.slice A b.length c] w fun e w' => e = .returned (.tuple #[.slice none 0 0, .int .i64 10]) ∧ Below w.heap.size w w' := by
  have HS := Aside0.mk (TInv.start w A c b hr hc)
  have HR := Aside0.mk hr
  have HBY := Aside0.mk hb
  have HLN := Aside0.mk hl
  subst hbad
  subst h1
  have HN := Aside0.mk (fun W h => numberE w.heap.size b false 2001 W h HBY.out HLN.out (by omega) (by omega) _ _ _ hnum)
  clear hr hb hl
  go_enter Try.func14, Try.ntmps14
  go_wp2_with (fail)
  refine (HN.out _ HS.out.rd).mono ?_; rintro e w1 ⟨rfl, hL⟩
  have H1 := Aside0.mk (HS.out.left hL)
  clear hL HN HS
  obtain ⟨A1, cc, hrd⟩ := H1.out.rd
  have c4 := H1.out.c4
  have d0 := hrd.cell0
  have d1 := hrd.cell1
  have f0 := hrd.frozen 0
  have hcap := hrd.cap
  have HRD := Aside0.mk hrd
  clear hrd
  go_wp2_with (fail)
  go_ret2
  exact ⟨rfl, H1.out.below⟩

set_option maxHeartbeats 8000000 in
set_option maxRecDepth 100000 in
theorem each_bad (A : Option Addr) (c : Nat) (b : List Int) (w : World) (hr : Kd.C (Kd.int .u8) w A b.length b) (hc : b.length ≤ c) (hb : Bytes b) (hl : b.length < 1000000000) (n : Nat) (way : Int) (b2 : List Int) (hnum : numM b false 2001 = ((n : Int), way :: b2, false)) (hn : n ≤ 2001) (hway : way ≠ 1) (l : List ByteArray) (b5 : List Int) (bad5 : Bool) (hsome : someM textM n b2 false = (l, b5, bad5)) (hb2 : Bytes b2) (hl2 : b2.length < 1000000000) (hbad : bad5 = true) :
    Calls Try.prog 14 #[.slice A b.length c] w fun e w' => e = .returned (.tuple #[.slice none 0 0, .int .i64 10]) ∧ Below w.heap.size w w' := by
  have HS := Aside0.mk (TInv.start w A c b hr hc)
  have HR := Aside0.mk hr
  have HBY := Aside0.mk hb
  have HLN := Aside0.mk hl
  subst hbad
  have hwb : (way == 1) = false := beq_eq_false_iff_ne.mpr hway
  clear hway
  have HSO := Aside0.mk (fun W h => someTextE w.heap.size n b2 false W (by omega) h hb2 hl2 _ _ _ hsome)
  clear hsome
  have HN := Aside0.mk (fun W h => numberE w.heap.size b false 2001 W h HBY.out HLN.out (by omega) (by omega) _ _ _ hnum)
  clear hr hb hl
  go_enter Try.func14, Try.ntmps14
  go_wp2_with (fail)
  refine (HN.out _ HS.out.rd).mono ?_; rintro e w1 ⟨rfl, hL⟩
  have H1 := Aside0.mk (HS.out.left hL)
  clear hL HN HS
  obtain ⟨A1, cc, hrd⟩ := H1.out.rd
  have c4 := H1.out.c4
  have d0 := hrd.cell0
  have d1 := hrd.cell1
  have f0 := hrd.frozen 0
  have hcap := hrd.cap
  have HRD := Aside0.mk hrd
  clear hrd
  simp only [List.length_cons] at d0 hcap
  obtain ⟨ad, rfl, hcells⟩ := C_cells HRD.out.row (by simp)
  have hway := cells0 hcells (by simp)
  rw [List.getD_cons_zero] at hway
  clear hcells
  obtain ⟨i0, hi0, _, hs0, _⟩ := info_parts CEach.info_u8
  have hcut := fun W => cut_from (P := Try.prog) 25 5 .i64 Try.underlying25 hi0 1 hs0 (some ad) (b2.length + 1) cc 1 (by omega) (by omega) W
  clear hi0 hs0
  rw [show b2.length + 1 - (1 : Int).toNat = b2.length from rfl] at hcut
  obtain ⟨V, hV⟩ : ∃ V : Option Addr, V = (if cc = (1 : Int).toNat then some ad else (some ad).map (·.add ((1 : Int).toNat * 1))) := ⟨_, rfl⟩
  rw [← hV] at hcut
  have HVV := Aside0.mk hV
  clear hV
  go_wp2_with (fail)
  refine start_ (n := 9) (S := fun w' => w'.cell? ⟨w.heap.size + 1, 0, none⟩ = some (.pointer (some ⟨w.heap.size, 0, none⟩)) ∧ w'.cell? ⟨w.heap.size, 0, none⟩ = some (.slice (some ad) (b2.length + 1) cc)) (ds := [8]) #[false, false, false, false, false, false, false, false, false] (by kernel_rfl) rfl rfl ⟨c4, d0⟩ (fun hHeld => ?_)
  refine take_ (i := 0) (N := some 33) (v := ?_) (a' := ?_) #[true, false, false, false, false, false, false, false, false] rfl rfl (by kernel_rfl) (fun _ _ _ h => h) (Or.inl ⟨by rfl, ?_⟩) hHeld ?_ ?_
  rotate_left
  · rintro w' ⟨s0, s1⟩
    go_simp
    with_reducible rfl
  rotate_left
  · simp only [Act.put, List.setIfInBounds_toArray, List.set_cons_zero, List.set_cons_succ, i64_w, i32_w]
    rfl
  refine take_ (i := 1) (N := some 34) (v := ?_) (a' := ?_) #[true, true, false, false, false, false, false, false, false] rfl rfl (by kernel_rfl) (fun _ _ _ h => h) (Or.inl ⟨by rfl, ?_⟩) hHeld ?_ ?_
  rotate_left
  · rintro w' ⟨s0, s1⟩
    go_simp
    with_reducible rfl
  rotate_left
  · simp only [Act.put, List.setIfInBounds_toArray, List.set_cons_zero, List.set_cons_succ, i64_w, i32_w]
    rfl
  refine pure_ (i := 2) (N := some 35) (v := ?_) (a' := ?_) #[true, true, true, false, false, false, false, false, false] rfl rfl (by kernel_rfl) (fun _ _ _ h => h) (Or.inl ⟨by rfl, ?_⟩) ?_ ?_
  rotate_left
  · intro w'
    go_simp
    with_reducible rfl
  rotate_left
  · simp only [Act.put, List.setIfInBounds_toArray, List.set_cons_zero, List.set_cons_succ, i64_w, i32_w]
    rfl
  refine pure_ (i := 3) (N := some 36) (v := ?_) (a' := ?_) #[true, true, true, true, false, false, false, false, false] rfl rfl (by kernel_rfl) (fun _ _ _ h => h) (Or.inl ⟨by rfl, ?_⟩) ?_ ?_
  rotate_left
  · intro w'
    go_simp
    with_reducible rfl
  rotate_left
  · simp only [Act.put, List.setIfInBounds_toArray, List.set_cons_zero, List.set_cons_succ, i64_w, i32_w]
    rfl
  refine take_ (i := 4) (N := some 37) (v := ?_) (a' := ?_) #[true, true, true, true, true, false, false, false, false] rfl rfl (by kernel_rfl) (fun _ _ _ h => h) (Or.inl ⟨by rfl, ?_⟩) hHeld ?_ ?_
  rotate_left
  · rintro w' ⟨s0, s1⟩
    go_simp
    with_reducible rfl
  rotate_left
  · simp only [Act.put, List.setIfInBounds_toArray, List.set_cons_zero, List.set_cons_succ, i64_w, i32_w]
    rfl
  refine pure_ (i := 5) (N := some 38) (v := ?_) (a' := ?_) #[true, true, true, true, true, true, false, false, false] rfl rfl (by kernel_rfl) (fun _ _ _ h => h) (Or.inl ⟨by rfl, ?_⟩) ?_ ?_
  rotate_left
  · intro w'
    go_simp
    with_reducible rfl
  rotate_left
  · simp only [Act.put, List.setIfInBounds_toArray, List.set_cons_zero, List.set_cons_succ, i64_w, i32_w]
    rfl
  refine pure_ (i := 6) (N := some 39) (v := ?_) (a' := ?_) #[true, true, true, true, true, true, true, false, false] rfl rfl (by kernel_rfl) (fun _ _ _ h => h) (Or.inl ⟨by rfl, ?_⟩) ?_ ?_
  rotate_left
  · intro w'
    go_simp
    with_reducible rfl
  rotate_left
  · simp only [Act.put, List.setIfInBounds_toArray, List.set_cons_zero, List.set_cons_succ, i64_w, i32_w]
    rfl
  refine pure_ (i := 7) (N := some 40) (v := ?_) (a' := ?_) #[true, true, true, true, true, true, true, true, false] rfl rfl (by kernel_rfl) (fun _ _ _ h => h) (Or.inl ⟨by rfl, ?_⟩) ?_ ?_
  rotate_left
  · intro w'
    go_simp
    with_reducible rfl
  rotate_left
  · simp only [Act.put, List.setIfInBounds_toArray, List.set_cons_zero, List.set_cons_succ, i64_w, i32_w]
    rfl
  refine last_ (i := 8) (N := none) #[true, true, true, true, true, true, true, true, true] rfl rfl (by kernel_rfl) (by decide) (fun K hK => ?_)
  refine skip_ (w1 := ?_) (by rfl) rfl ?_ ?_
  rotate_left
  · go_simp
    rfl
  refine hK.out _ _ ?_
  clear hK K
  refine done_ (by kernel_rfl) ?_
  have H2 : Aside0 (TInv w (w1.setCell ⟨w.heap.size, 0, none⟩ (.slice V b2.length (cc - 1))).drew b2 false) := by
    have hd := HRD.out.drop 1 (by simp) (.slice V b2.length (cc - 1)) (by rw [HVV.out]; rfl)
    exact ⟨(H1.out.left ⟨hd, grown_set w1 _ 0 _⟩).step (below_drew (Below.refl _ _))⟩
  generalize (w1.setCell ⟨w.heap.size, 0, none⟩ (.slice V b2.length (cc - 1))).drew = w2 at *
  clear d0 d1 f0 hway hcut HRD H1 hHeld c4
  have c4 := H2.out.c4
  go_wp2_with (fail)
  refine (HSO.out _ H2.out.rd).mono ?_; rintro e w3 ⟨v, rfl, ho, hL⟩
  have H3 := Aside0.mk (H2.out.left hL)
  clear hL c4
  obtain ⟨A5, c5, rfl, l5, hc5⟩ := R_CS ho
  have HC5 := Aside0.mk hc5
  clear ho hc5
  obtain ⟨A3, c3, hrd⟩ := H3.out.rd
  have c4 := H3.out.c4
  have d1 := hrd.cell1
  clear hrd
  go_wp2_with (fail)
  go_ret2
  exact ⟨rfl, H3.out.below⟩

set_option maxHeartbeats 8000000 in
set_option maxRecDepth 100000 in
theorem each_other (A : Option Addr) (c : Nat) (b : List Int) (w : World) (hr : Kd.C (Kd.int .u8) w A b.length b) (hc : b.length ≤ c) (hb : Bytes b) (hl : b.length < 1000000000) (n : Nat) (way : Int) (b2 : List Int) (hnum : numM b false 2001 = ((n : Int), way :: b2, false)) (hn : n ≤ 2001) (hway : way ≠ 1) (l : List ByteArray) (b5 : List Int) (bad5 : Bool) (hsome : someM textM n b2 false = (l, b5, bad5)) (hb2 : Bytes b2) (hl2 : b2.length < 1000000000) (hbad : bad5 = false) (hln : l.length ≤ 2000) (hsz : ∀ s ∈ l, s.size ≤ 1000) (hput : put l ≠ b) :
    Calls Try.prog 14 #[.slice A b.length c] w fun e w' => e = .returned (.tuple #[.slice none 0 0, .int .i64 10]) ∧ Below w.heap.size w w' := by
  have HS := Aside0.mk (TInv.start w A c b hr hc)
  have HR := Aside0.mk hr
  have HBY := Aside0.mk hb
  have HLN := Aside0.mk hl
  subst hbad
  have hwb : (way == 1) = false := beq_eq_false_iff_ne.mpr hway
  clear hway
  have HSO := Aside0.mk (fun W h => someTextE w.heap.size n b2 false W (by omega) h hb2 hl2 _ _ _ hsome)
  clear hsome
  have HSZ := Aside0.mk hsz
  clear hsz
  have hne : Aside0 (((strOfNums (put l)).toList == (strOfNums b).toList) = false) := ⟨by rw [beq_eq_false_iff_ne]; exact fun h => hput (str_inj (put_Bytes l) hb h)⟩
  clear hput
  have HN := Aside0.mk (fun W h => numberE w.heap.size b false 2001 W h HBY.out HLN.out (by omega) (by omega) _ _ _ hnum)
  clear hr hb hl
  go_enter Try.func14, Try.ntmps14
  go_wp2_with (fail)
  refine (HN.out _ HS.out.rd).mono ?_; rintro e w1 ⟨rfl, hL⟩
  have H1 := Aside0.mk (HS.out.left hL)
  clear hL HN HS
  obtain ⟨A1, cc, hrd⟩ := H1.out.rd
  have c4 := H1.out.c4
  have d0 := hrd.cell0
  have d1 := hrd.cell1
  have f0 := hrd.frozen 0
  have hcap := hrd.cap
  have HRD := Aside0.mk hrd
  clear hrd
  simp only [List.length_cons] at d0 hcap
  obtain ⟨ad, rfl, hcells⟩ := C_cells HRD.out.row (by simp)
  have hway := cells0 hcells (by simp)
  rw [List.getD_cons_zero] at hway
  clear hcells
  obtain ⟨i0, hi0, _, hs0, _⟩ := info_parts CEach.info_u8
  have hcut := fun W => cut_from (P := Try.prog) 25 5 .i64 Try.underlying25 hi0 1 hs0 (some ad) (b2.length + 1) cc 1 (by omega) (by omega) W
  clear hi0 hs0
  rw [show b2.length + 1 - (1 : Int).toNat = b2.length from rfl] at hcut
  obtain ⟨V, hV⟩ : ∃ V : Option Addr, V = (if cc = (1 : Int).toNat then some ad else (some ad).map (·.add ((1 : Int).toNat * 1))) := ⟨_, rfl⟩
  rw [← hV] at hcut
  have HVV := Aside0.mk hV
  clear hV
  go_wp2_with (fail)
  refine start_ (n := 9) (S := fun w' => w'.cell? ⟨w.heap.size + 1, 0, none⟩ = some (.pointer (some ⟨w.heap.size, 0, none⟩)) ∧ w'.cell? ⟨w.heap.size, 0, none⟩ = some (.slice (some ad) (b2.length + 1) cc)) (ds := [8]) #[false, false, false, false, false, false, false, false, false] (by kernel_rfl) rfl rfl ⟨c4, d0⟩ (fun hHeld => ?_)
  refine take_ (i := 0) (N := some 33) (v := ?_) (a' := ?_) #[true, false, false, false, false, false, false, false, false] rfl rfl (by kernel_rfl) (fun _ _ _ h => h) (Or.inl ⟨by rfl, ?_⟩) hHeld ?_ ?_
  rotate_left
  · rintro w' ⟨s0, s1⟩
    go_simp
    with_reducible rfl
  rotate_left
  · simp only [Act.put, List.setIfInBounds_toArray, List.set_cons_zero, List.set_cons_succ, i64_w, i32_w]
    rfl
  refine take_ (i := 1) (N := some 34) (v := ?_) (a' := ?_) #[true, true, false, false, false, false, false, false, false] rfl rfl (by kernel_rfl) (fun _ _ _ h => h) (Or.inl ⟨by rfl, ?_⟩) hHeld ?_ ?_
  rotate_left
  · rintro w' ⟨s0, s1⟩
    go_simp
    with_reducible rfl
  rotate_left
  · simp only [Act.put, List.setIfInBounds_toArray, List.set_cons_zero, List.set_cons_succ, i64_w, i32_w]
    rfl
  refine pure_ (i := 2) (N := some 35) (v := ?_) (a' := ?_) #[true, true, true, false, false, false, false, false, false] rfl rfl (by kernel_rfl) (fun _ _ _ h => h) (Or.inl ⟨by rfl, ?_⟩) ?_ ?_
  rotate_left
  · intro w'
    go_simp
    with_reducible rfl
  rotate_left
  · simp only [Act.put, List.setIfInBounds_toArray, List.set_cons_zero, List.set_cons_succ, i64_w, i32_w]
    rfl
  refine pure_ (i := 3) (N := some 36) (v := ?_) (a' := ?_) #[true, true, true, true, false, false, false, false, false] rfl rfl (by kernel_rfl) (fun _ _ _ h => h) (Or.inl ⟨by rfl, ?_⟩) ?_ ?_
  rotate_left
  · intro w'
    go_simp
    with_reducible rfl
  rotate_left
  · simp only [Act.put, List.setIfInBounds_toArray, List.set_cons_zero, List.set_cons_succ, i64_w, i32_w]
    rfl
  refine take_ (i := 4) (N := some 37) (v := ?_) (a' := ?_) #[true, true, true, true, true, false, false, false, false] rfl rfl (by kernel_rfl) (fun _ _ _ h => h) (Or.inl ⟨by rfl, ?_⟩) hHeld ?_ ?_
  rotate_left
  · rintro w' ⟨s0, s1⟩
    go_simp
    with_reducible rfl
  rotate_left
  · simp only [Act.put, List.setIfInBounds_toArray, List.set_cons_zero, List.set_cons_succ, i64_w, i32_w]
    rfl
  refine pure_ (i := 5) (N := some 38) (v := ?_) (a' := ?_) #[true, true, true, true, true, true, false, false, false] rfl rfl (by kernel_rfl) (fun _ _ _ h => h) (Or.inl ⟨by rfl, ?_⟩) ?_ ?_
  rotate_left
  · intro w'
    go_simp
    with_reducible rfl
  rotate_left
  · simp only [Act.put, List.setIfInBounds_toArray, List.set_cons_zero, List.set_cons_succ, i64_w, i32_w]
    rfl
  refine pure_ (i := 6) (N := some 39) (v := ?_) (a' := ?_) #[true, true, true, true, true, true, true, false, false] rfl rfl (by kernel_rfl) (fun _ _ _ h => h) (Or.inl ⟨by rfl, ?_⟩) ?_ ?_
  rotate_left
  · intro w'
    go_simp
    with_reducible rfl
  rotate_left
  · simp only [Act.put, List.setIfInBounds_toArray, List.set_cons_zero, List.set_cons_succ, i64_w, i32_w]
    rfl
  refine pure_ (i := 7) (N := some 40) (v := ?_) (a' := ?_) #[true, true, true, true, true, true, true, true, false] rfl rfl (by kernel_rfl) (fun _ _ _ h => h) (Or.inl ⟨by rfl, ?_⟩) ?_ ?_
  rotate_left
  · intro w'
    go_simp
    with_reducible rfl
  rotate_left
  · simp only [Act.put, List.setIfInBounds_toArray, List.set_cons_zero, List.set_cons_succ, i64_w, i32_w]
    rfl
  refine last_ (i := 8) (N := none) #[true, true, true, true, true, true, true, true, true] rfl rfl (by kernel_rfl) (by decide) (fun K hK => ?_)
  refine skip_ (w1 := ?_) (by rfl) rfl ?_ ?_
  rotate_left
  · go_simp
    rfl
  refine hK.out _ _ ?_
  clear hK K
  refine done_ (by kernel_rfl) ?_
  have H2 : Aside0 (TInv w (w1.setCell ⟨w.heap.size, 0, none⟩ (.slice V b2.length (cc - 1))).drew b2 false) := by
    have hd := HRD.out.drop 1 (by simp) (.slice V b2.length (cc - 1)) (by rw [HVV.out]; rfl)
    exact ⟨(H1.out.left ⟨hd, grown_set w1 _ 0 _⟩).step (below_drew (Below.refl _ _))⟩
  generalize (w1.setCell ⟨w.heap.size, 0, none⟩ (.slice V b2.length (cc - 1))).drew = w2 at *
  clear d0 d1 f0 hway hcut HRD H1 hHeld c4
  have c4 := H2.out.c4
  go_wp2_with (fail)
  refine (HSO.out _ H2.out.rd).mono ?_; rintro e w3 ⟨v, rfl, ho, hL⟩
  have H3 := Aside0.mk (H2.out.left hL)
  clear hL c4
  obtain ⟨A5, c5, rfl, l5, hc5⟩ := R_CS ho
  have HC5 := Aside0.mk hc5
  clear ho hc5
  obtain ⟨A3, c3, hrd⟩ := H3.out.rd
  have c4 := H3.out.c4
  have d1 := hrd.cell1
  clear hrd
  go_wp2_with (fail)
  refine (putC A5 c5 l _ HC5.out l5 hln HSZ.out).mono ?_; rintro e w4 ⟨v, rfl, ho, hb4⟩
  obtain ⟨Ap, cp, rfl, lp, hpp⟩ := R_C ho
  have HB4 := Aside0.mk (below_step H3.out.below hb4)
  have HC6 := Aside0.mk (Kd.C_below HC5.out hb4)
  have HE := Aside0.mk (Try.bytes_Equal_strs (.slice Ap (put l).length cp) (.slice A b.length c) (strOfNums (put l)) (strOfNums b) w4 (toStr1 cp Try.underlying25 Try.underlying5 Try.underlying9 hpp) (toStr1 c Try.underlying25 Try.underlying5 Try.underlying9 (Kd.C_below HR.out HB4.out)))
  clear ho hb4 hpp c4 d1
  go_wp2_with (fail)
  refine (HE.out).mono ?_; rintro e w5 ⟨rfl, hw⟩
  obtain rfl : w4 = w5 := hw.symm
  rw [hne.out]
  go_wp2_with (fail)
  go_ret2
  exact ⟨rfl, HB4.out⟩

set_option maxHeartbeats 8000000 in
set_option maxRecDepth 100000 in
theorem each_good (A : Option Addr) (c : Nat) (b : List Int) (w : World) (hr : Kd.C (Kd.int .u8) w A b.length b) (hc : b.length ≤ c) (hb : Bytes b) (hl : b.length < 1000000000) (n : Nat) (way : Int) (b2 : List Int) (hnum : numM b false 2001 = ((n : Int), way :: b2, false)) (hn : n ≤ 2001) (hway : way ≠ 1) (l : List ByteArray) (b5 : List Int) (bad5 : Bool) (hsome : someM textM n b2 false = (l, b5, bad5)) (hb2 : Bytes b2) (hl2 : b2.length < 1000000000) (hbad : bad5 = false) (hln : l.length ≤ 2000) (hsz : ∀ s ∈ l, s.size ≤ 1000) (hput : put l = b) :
    Calls Try.prog 14 #[.slice A b.length c] w fun e w' => ∃ A' c', e = .returned (.tuple #[.slice A' l.length c', .int .i64 0]) ∧ l.length ≤ c' ∧ Kd.C Kd.string w' A' l.length l ∧ Below w.heap.size w w' := by
  have HS := Aside0.mk (TInv.start w A c b hr hc)
  have HR := Aside0.mk hr
  have HBY := Aside0.mk hb
  have HLN := Aside0.mk hl
  subst hbad
  have hwb : (way == 1) = false := beq_eq_false_iff_ne.mpr hway
  clear hway
  have HSO := Aside0.mk (fun W h => someTextE w.heap.size n b2 false W (by omega) h hb2 hl2 _ _ _ hsome)
  clear hsome
  have HSZ := Aside0.mk hsz
  clear hsz
  have HP := Aside0.mk hput
  clear hput
  have HN := Aside0.mk (fun W h => numberE w.heap.size b false 2001 W h HBY.out HLN.out (by omega) (by omega) _ _ _ hnum)
  clear hr hb hl
  go_enter Try.func14, Try.ntmps14
  go_wp2_with (fail)
  refine (HN.out _ HS.out.rd).mono ?_; rintro e w1 ⟨rfl, hL⟩
  have H1 := Aside0.mk (HS.out.left hL)
  clear hL HN HS
  obtain ⟨A1, cc, hrd⟩ := H1.out.rd
  have c4 := H1.out.c4
  have d0 := hrd.cell0
  have d1 := hrd.cell1
  have f0 := hrd.frozen 0
  have hcap := hrd.cap
  have HRD := Aside0.mk hrd
  clear hrd
  simp only [List.length_cons] at d0 hcap
  obtain ⟨ad, rfl, hcells⟩ := C_cells HRD.out.row (by simp)
  have hway := cells0 hcells (by simp)
  rw [List.getD_cons_zero] at hway
  clear hcells
  obtain ⟨i0, hi0, _, hs0, _⟩ := info_parts CEach.info_u8
  have hcut := fun W => cut_from (P := Try.prog) 25 5 .i64 Try.underlying25 hi0 1 hs0 (some ad) (b2.length + 1) cc 1 (by omega) (by omega) W
  clear hi0 hs0
  rw [show b2.length + 1 - (1 : Int).toNat = b2.length from rfl] at hcut
  obtain ⟨V, hV⟩ : ∃ V : Option Addr, V = (if cc = (1 : Int).toNat then some ad else (some ad).map (·.add ((1 : Int).toNat * 1))) := ⟨_, rfl⟩
  rw [← hV] at hcut
  have HVV := Aside0.mk hV
  clear hV
  go_wp2_with (fail)
  refine start_ (n := 9) (S := fun w' => w'.cell? ⟨w.heap.size + 1, 0, none⟩ = some (.pointer (some ⟨w.heap.size, 0, none⟩)) ∧ w'.cell? ⟨w.heap.size, 0, none⟩ = some (.slice (some ad) (b2.length + 1) cc)) (ds := [8]) #[false, false, false, false, false, false, false, false, false] (by kernel_rfl) rfl rfl ⟨c4, d0⟩ (fun hHeld => ?_)
  refine take_ (i := 0) (N := some 33) (v := ?_) (a' := ?_) #[true, false, false, false, false, false, false, false, false] rfl rfl (by kernel_rfl) (fun _ _ _ h => h) (Or.inl ⟨by rfl, ?_⟩) hHeld ?_ ?_
  rotate_left
  · rintro w' ⟨s0, s1⟩
    go_simp
    with_reducible rfl
  rotate_left
  · simp only [Act.put, List.setIfInBounds_toArray, List.set_cons_zero, List.set_cons_succ, i64_w, i32_w]
    rfl
  refine take_ (i := 1) (N := some 34) (v := ?_) (a' := ?_) #[true, true, false, false, false, false, false, false, false] rfl rfl (by kernel_rfl) (fun _ _ _ h => h) (Or.inl ⟨by rfl, ?_⟩) hHeld ?_ ?_
  rotate_left
  · rintro w' ⟨s0, s1⟩
    go_simp
    with_reducible rfl
  rotate_left
  · simp only [Act.put, List.setIfInBounds_toArray, List.set_cons_zero, List.set_cons_succ, i64_w, i32_w]
    rfl
  refine pure_ (i := 2) (N := some 35) (v := ?_) (a' := ?_) #[true, true, true, false, false, false, false, false, false] rfl rfl (by kernel_rfl) (fun _ _ _ h => h) (Or.inl ⟨by rfl, ?_⟩) ?_ ?_
  rotate_left
  · intro w'
    go_simp
    with_reducible rfl
  rotate_left
  · simp only [Act.put, List.setIfInBounds_toArray, List.set_cons_zero, List.set_cons_succ, i64_w, i32_w]
    rfl
  refine pure_ (i := 3) (N := some 36) (v := ?_) (a' := ?_) #[true, true, true, true, false, false, false, false, false] rfl rfl (by kernel_rfl) (fun _ _ _ h => h) (Or.inl ⟨by rfl, ?_⟩) ?_ ?_
  rotate_left
  · intro w'
    go_simp
    with_reducible rfl
  rotate_left
  · simp only [Act.put, List.setIfInBounds_toArray, List.set_cons_zero, List.set_cons_succ, i64_w, i32_w]
    rfl
  refine take_ (i := 4) (N := some 37) (v := ?_) (a' := ?_) #[true, true, true, true, true, false, false, false, false] rfl rfl (by kernel_rfl) (fun _ _ _ h => h) (Or.inl ⟨by rfl, ?_⟩) hHeld ?_ ?_
  rotate_left
  · rintro w' ⟨s0, s1⟩
    go_simp
    with_reducible rfl
  rotate_left
  · simp only [Act.put, List.setIfInBounds_toArray, List.set_cons_zero, List.set_cons_succ, i64_w, i32_w]
    rfl
  refine pure_ (i := 5) (N := some 38) (v := ?_) (a' := ?_) #[true, true, true, true, true, true, false, false, false] rfl rfl (by kernel_rfl) (fun _ _ _ h => h) (Or.inl ⟨by rfl, ?_⟩) ?_ ?_
  rotate_left
  · intro w'
    go_simp
    with_reducible rfl
  rotate_left
  · simp only [Act.put, List.setIfInBounds_toArray, List.set_cons_zero, List.set_cons_succ, i64_w, i32_w]
    rfl
  refine pure_ (i := 6) (N := some 39) (v := ?_) (a' := ?_) #[true, true, true, true, true, true, true, false, false] rfl rfl (by kernel_rfl) (fun _ _ _ h => h) (Or.inl ⟨by rfl, ?_⟩) ?_ ?_
  rotate_left
  · intro w'
    go_simp
    with_reducible rfl
  rotate_left
  · simp only [Act.put, List.setIfInBounds_toArray, List.set_cons_zero, List.set_cons_succ, i64_w, i32_w]
    rfl
  refine pure_ (i := 7) (N := some 40) (v := ?_) (a' := ?_) #[true, true, true, true, true, true, true, true, false] rfl rfl (by kernel_rfl) (fun _ _ _ h => h) (Or.inl ⟨by rfl, ?_⟩) ?_ ?_
  rotate_left
  · intro w'
    go_simp
    with_reducible rfl
  rotate_left
  · simp only [Act.put, List.setIfInBounds_toArray, List.set_cons_zero, List.set_cons_succ, i64_w, i32_w]
    rfl
  refine last_ (i := 8) (N := none) #[true, true, true, true, true, true, true, true, true] rfl rfl (by kernel_rfl) (by decide) (fun K hK => ?_)
  refine skip_ (w1 := ?_) (by rfl) rfl ?_ ?_
  rotate_left
  · go_simp
    rfl
  refine hK.out _ _ ?_
  clear hK K
  refine done_ (by kernel_rfl) ?_
  have H2 : Aside0 (TInv w (w1.setCell ⟨w.heap.size, 0, none⟩ (.slice V b2.length (cc - 1))).drew b2 false) := by
    have hd := HRD.out.drop 1 (by simp) (.slice V b2.length (cc - 1)) (by rw [HVV.out]; rfl)
    exact ⟨(H1.out.left ⟨hd, grown_set w1 _ 0 _⟩).step (below_drew (Below.refl _ _))⟩
  generalize (w1.setCell ⟨w.heap.size, 0, none⟩ (.slice V b2.length (cc - 1))).drew = w2 at *
  clear d0 d1 f0 hway hcut HRD H1 hHeld c4
  have c4 := H2.out.c4
  go_wp2_with (fail)
  refine (HSO.out _ H2.out.rd).mono ?_; rintro e w3 ⟨v, rfl, ho, hL⟩
  have H3 := Aside0.mk (H2.out.left hL)
  clear hL c4
  obtain ⟨A5, c5, rfl, l5, hc5⟩ := R_CS ho
  have HC5 := Aside0.mk hc5
  clear ho hc5
  obtain ⟨A3, c3, hrd⟩ := H3.out.rd
  have c4 := H3.out.c4
  have d1 := hrd.cell1
  clear hrd
  go_wp2_with (fail)
  refine (putC A5 c5 l _ HC5.out l5 hln HSZ.out).mono ?_; rintro e w4 ⟨v, rfl, ho, hb4⟩
  obtain ⟨Ap, cp, rfl, lp, hpp⟩ := R_C ho
  have HB4 := Aside0.mk (below_step H3.out.below hb4)
  have HC6 := Aside0.mk (Kd.C_below HC5.out hb4)
  have HE := Aside0.mk (Try.bytes_Equal_strs (.slice Ap (put l).length cp) (.slice A b.length c) (strOfNums (put l)) (strOfNums b) w4 (toStr1 cp Try.underlying25 Try.underlying5 Try.underlying9 hpp) (toStr1 c Try.underlying25 Try.underlying5 Try.underlying9 (Kd.C_below HR.out HB4.out)))
  clear ho hb4 hpp c4 d1
  go_wp2_with (fail)
  refine (HE.out).mono ?_; rintro e w5 ⟨rfl, hw⟩
  obtain rfl : w4 = w5 := hw.symm
  rw [HP.out, beq_self_eq_true]
  go_wp2_with (fail)
  go_ret2
  exact ⟨A5, c5, rfl, l5, HC6.out, HB4.out⟩


end Go.Proofs.Ytnecipeckamiiaa.CTakeT

/- CTakeT2: The contract of texts.Take, in the way by places. -/
namespace Go.Proofs.Ytnecipeckamiiaa.CTakeT2
open Go.RowKit Go.Proofs.YtnecipeckamiiaaW.PrintWords Go.Proofs.YtnecipeckamiiaaW.PrintLast Go.Proofs.YtnecipeckamiiaaW.PrintMore Go.Proofs.Ytnecipeckamiiaa.Num Go.Proofs.Ytnecipeckamiiaa.Bits Go.Proofs.Ytnecipeckamiiaa.VarM Go.Proofs.Ytnecipeckamiiaa.TextsT Go.Proofs.Ytnecipeckamiiaa.Hold Go.Proofs.Ytnecipeckamiiaa.HoldS Go.Proofs.Ytnecipeckamiiaa.RdM Go.Proofs.Ytnecipeckamiiaa.KRd Go.Proofs.Ytnecipeckamiiaa.CNumber Go.Proofs.Ytnecipeckamiiaa.CText Go.Proofs.Ytnecipeckamiiaa.CSome Go.Proofs.Ytnecipeckamiiaa.CPlaceT Go.Proofs.Ytnecipeckamiiaa.KTake
open Go.Proofs.Ytnecipeckamiiaa.CPutT (putC)
open Go.Proofs.Ytnecipeckamiiaa.CFewT (R_CS)
set_option linter.unusedVariables false
set_option linter.unusedSimpArgs false
attribute [local go_sem] max2_int min2_int max_two min_two max_three min_three max_four min_four

set_option maxHeartbeats 8000000 in
set_option maxRecDepth 100000 in
theorem places_bad (A : Option Addr) (c : Nat) (b : List Int) (w : World) (hr : Kd.C (Kd.int .u8) w A b.length b) (hc : b.length ≤ c) (hb : Bytes b) (hl : b.length < 1000000000) (n k : Nat) (b2 : List Int) (hnum : numM b false 2001 = ((n : Int), 1 :: b2, false)) (hn : n ≤ 2001) (hk : k ≤ 2002) (b3 : List Int) (bad3 : Bool) (hnum2 : numM b2 false ((n : Int) + 1) = ((k : Int), b3, bad3)) (ws : List ByteArray) (b4 : List Int) (bad4 : Bool) (hsome : someM textM k b3 bad3 = (ws, b4, bad4)) (hws : ws.length ≤ 2001) (l : List ByteArray) (b5 : List Int) (bad5 : Bool) (hsome2 : someM (placeM ws) n b4 bad4 = (l, b5, bad5)) (hb2 : Bytes b2) (hl2 : b2.length < 1000000000) (hb3 : Bytes b3) (hl3 : b3.length < 1000000000) (hb4 : Bytes b4) (hl4 : b4.length < 1000000000) (hbad : bad5 = true) :
    Calls Try.prog 14 #[.slice A b.length c] w fun e w' => e = .returned (.tuple #[.slice none 0 0, .int .i64 10]) ∧ Below w.heap.size w w' := by
  have HS := Aside0.mk (TInv.start w A c b hr hc)
  have HR := Aside0.mk hr
  have HBY := Aside0.mk hb
  have HLN := Aside0.mk hl
  subst hbad
  have HNO := Aside0.mk (fun W h => numberE w.heap.size b2 false ((n : Int) + 1) W h hb2 hl2 (by omega) (by omega) _ _ _ hnum2)
  clear hnum2
  have HST := Aside0.mk (fun W h => someTextE w.heap.size k b3 bad3 W (by omega) h hb3 hl3 _ _ _ hsome)
  clear hsome
  have HSP := Aside0.mk (fun p8 Aw cw W hE h => somePlaceE w.heap.size n (w.heap.size + 1) p8 Aw cw ws hws b4 bad4 W (by omega) hE h hb4 hl4 _ _ _ hsome2)
  clear hsome2
  have HN := Aside0.mk (fun W h => numberE w.heap.size b false 2001 W h HBY.out HLN.out (by omega) (by omega) _ _ _ hnum)
  clear hr hb hl
  go_enter Try.func14, Try.ntmps14
  go_wp2_with (fail)
  refine (HN.out _ HS.out.rd).mono ?_; rintro e w1 ⟨rfl, hL⟩
  have H1 := Aside0.mk (HS.out.left hL)
  clear hL HN HS
  obtain ⟨A1, cc, hrd⟩ := H1.out.rd
  have c4 := H1.out.c4
  have d0 := hrd.cell0
  have d1 := hrd.cell1
  have f0 := hrd.frozen 0
  have hcap := hrd.cap
  have HRD := Aside0.mk hrd
  clear hrd
  simp only [List.length_cons] at d0 hcap
  obtain ⟨ad, rfl, hcells⟩ := C_cells HRD.out.row (by simp)
  have hway := cells0 hcells (by simp)
  rw [List.getD_cons_zero] at hway
  clear hcells
  obtain ⟨i0, hi0, _, hs0, _⟩ := info_parts CEach.info_u8
  have hcut := fun W => cut_from (P := Try.prog) 25 5 .i64 Try.underlying25 hi0 1 hs0 (some ad) (b2.length + 1) cc 1 (by omega) (by omega) W
  clear hi0 hs0
  rw [show b2.length + 1 - (1 : Int).toNat = b2.length from rfl] at hcut
  obtain ⟨V, hV⟩ : ∃ V : Option Addr, V = (if cc = (1 : Int).toNat then some ad else (some ad).map (·.add ((1 : Int).toNat * 1))) := ⟨_, rfl⟩
  rw [← hV] at hcut
  have HVV := Aside0.mk hV
  clear hV
  go_wp2_with (fail)
  refine start_ (n := 9) (S := fun w' => w'.cell? ⟨w.heap.size + 1, 0, none⟩ = some (.pointer (some ⟨w.heap.size, 0, none⟩)) ∧ w'.cell? ⟨w.heap.size, 0, none⟩ = some (.slice (some ad) (b2.length + 1) cc)) (ds := [8]) #[false, false, false, false, false, false, false, false, false] (by kernel_rfl) rfl rfl ⟨c4, d0⟩ (fun hHeld => ?_)
  refine take_ (i := 0) (N := some 33) (v := ?_) (a' := ?_) #[true, false, false, false, false, false, false, false, false] rfl rfl (by kernel_rfl) (fun _ _ _ h => h) (Or.inl ⟨by rfl, ?_⟩) hHeld ?_ ?_
  rotate_left
  · rintro w' ⟨s0, s1⟩
    go_simp
    with_reducible rfl
  rotate_left
  · simp only [Act.put, List.setIfInBounds_toArray, List.set_cons_zero, List.set_cons_succ, i64_w, i32_w]
    rfl
  refine take_ (i := 1) (N := some 34) (v := ?_) (a' := ?_) #[true, true, false, false, false, false, false, false, false] rfl rfl (by kernel_rfl) (fun _ _ _ h => h) (Or.inl ⟨by rfl, ?_⟩) hHeld ?_ ?_
  rotate_left
  · rintro w' ⟨s0, s1⟩
    go_simp
    with_reducible rfl
  rotate_left
  · simp only [Act.put, List.setIfInBounds_toArray, List.set_cons_zero, List.set_cons_succ, i64_w, i32_w]
    rfl
  refine pure_ (i := 2) (N := some 35) (v := ?_) (a' := ?_) #[true, true, true, false, false, false, false, false, false] rfl rfl (by kernel_rfl) (fun _ _ _ h => h) (Or.inl ⟨by rfl, ?_⟩) ?_ ?_
  rotate_left
  · intro w'
    go_simp
    with_reducible rfl
  rotate_left
  · simp only [Act.put, List.setIfInBounds_toArray, List.set_cons_zero, List.set_cons_succ, i64_w, i32_w]
    rfl
  refine pure_ (i := 3) (N := some 36) (v := ?_) (a' := ?_) #[true, true, true, true, false, false, false, false, false] rfl rfl (by kernel_rfl) (fun _ _ _ h => h) (Or.inl ⟨by rfl, ?_⟩) ?_ ?_
  rotate_left
  · intro w'
    go_simp
    with_reducible rfl
  rotate_left
  · simp only [Act.put, List.setIfInBounds_toArray, List.set_cons_zero, List.set_cons_succ, i64_w, i32_w]
    rfl
  refine take_ (i := 4) (N := some 37) (v := ?_) (a' := ?_) #[true, true, true, true, true, false, false, false, false] rfl rfl (by kernel_rfl) (fun _ _ _ h => h) (Or.inl ⟨by rfl, ?_⟩) hHeld ?_ ?_
  rotate_left
  · rintro w' ⟨s0, s1⟩
    go_simp
    with_reducible rfl
  rotate_left
  · simp only [Act.put, List.setIfInBounds_toArray, List.set_cons_zero, List.set_cons_succ, i64_w, i32_w]
    rfl
  refine pure_ (i := 5) (N := some 38) (v := ?_) (a' := ?_) #[true, true, true, true, true, true, false, false, false] rfl rfl (by kernel_rfl) (fun _ _ _ h => h) (Or.inl ⟨by rfl, ?_⟩) ?_ ?_
  rotate_left
  · intro w'
    go_simp
    with_reducible rfl
  rotate_left
  · simp only [Act.put, List.setIfInBounds_toArray, List.set_cons_zero, List.set_cons_succ, i64_w, i32_w]
    rfl
  refine pure_ (i := 6) (N := some 39) (v := ?_) (a' := ?_) #[true, true, true, true, true, true, true, false, false] rfl rfl (by kernel_rfl) (fun _ _ _ h => h) (Or.inl ⟨by rfl, ?_⟩) ?_ ?_
  rotate_left
  · intro w'
    go_simp
    with_reducible rfl
  rotate_left
  · simp only [Act.put, List.setIfInBounds_toArray, List.set_cons_zero, List.set_cons_succ, i64_w, i32_w]
    rfl
  refine pure_ (i := 7) (N := some 40) (v := ?_) (a' := ?_) #[true, true, true, true, true, true, true, true, false] rfl rfl (by kernel_rfl) (fun _ _ _ h => h) (Or.inl ⟨by rfl, ?_⟩) ?_ ?_
  rotate_left
  · intro w'
    go_simp
    with_reducible rfl
  rotate_left
  · simp only [Act.put, List.setIfInBounds_toArray, List.set_cons_zero, List.set_cons_succ, i64_w, i32_w]
    rfl
  refine last_ (i := 8) (N := none) #[true, true, true, true, true, true, true, true, true] rfl rfl (by kernel_rfl) (by decide) (fun K hK => ?_)
  refine skip_ (w1 := ?_) (by rfl) rfl ?_ ?_
  rotate_left
  · go_simp
    rfl
  refine hK.out _ _ ?_
  clear hK K
  refine done_ (by kernel_rfl) ?_
  have H2 : Aside0 (TInv w (w1.setCell ⟨w.heap.size, 0, none⟩ (.slice V b2.length (cc - 1))).drew b2 false) := by
    have hd := HRD.out.drop 1 (by simp) (.slice V b2.length (cc - 1)) (by rw [HVV.out]; rfl)
    exact ⟨(H1.out.left ⟨hd, grown_set w1 _ 0 _⟩).step (below_drew (Below.refl _ _))⟩
  generalize (w1.setCell ⟨w.heap.size, 0, none⟩ (.slice V b2.length (cc - 1))).drew = w2 at *
  clear d0 d1 f0 hway hcut HRD H1 hHeld c4
  have c4 := H2.out.c4
  go_wp2_with (fail)
  have HI : Aside0 (TInv w w2.drew b2 false) := ⟨H2.out.step (below_drew (Below.refl _ _))⟩
  have hwr2 : IntKind.i64.wrap ((n : Int) + 1) = (n : Int) + 1 := IntWalk.i64_in _ (by omega)
  have hwr : wrap64 ((n : Int) + 1) = (n : Int) + 1 := wrap64_id (by omega) (by omega)
  refine start_ (n := 10) (S := fun w' => w'.cell? ⟨w.heap.size + 1, 0, none⟩ = some (.pointer (some ⟨w.heap.size, 0, none⟩))) (ds := []) #[false, false, false, false, false, false, false, false, false, false] (by kernel_rfl) rfl rfl (c4) (fun hHeld => ?_)
  refine pure_ (i := 2) (N := some 47) (v := ?_) (a' := ?_) #[false, false, true, false, false, false, false, false, false, false] rfl rfl (by kernel_rfl) (fun _ _ _ h => h) (Or.inl ⟨by rfl, ?_⟩) ?_ ?_
  rotate_left
  · intro w'
    go_simp
    with_reducible rfl
  rotate_left
  · simp only [Act.put, List.setIfInBounds_toArray, List.set_cons_zero, List.set_cons_succ, i64_w, i32_w]
    rfl
  refine pure_ (i := 3) (N := some 48) (v := ?_) (a' := ?_) #[false, false, true, true, false, false, false, false, false, false] rfl rfl (by kernel_rfl) (fun _ _ _ h => h) (Or.inl ⟨by rfl, ?_⟩) ?_ ?_
  rotate_left
  · intro w'
    go_simp
    with_reducible rfl
  rotate_left
  · simp only [Act.put, List.setIfInBounds_toArray, List.set_cons_zero, List.set_cons_succ, i64_w, i32_w]
    rfl
  refine take_ (i := 0) (N := some 45) (v := ?_) (a' := ?_) #[true, false, true, true, false, false, false, false, false, false] rfl rfl (by kernel_rfl) (fun _ _ _ h => h) (Or.inl ⟨by rfl, ?_⟩) hHeld ?_ ?_
  rotate_left
  · intro w' s0
    go_simp
    with_reducible rfl
  rotate_left
  · simp only [Act.put, List.setIfInBounds_toArray, List.set_cons_zero, List.set_cons_succ, i64_w, i32_w]
    rfl
  refine take_ (i := 1) (N := some 46) (v := ?_) (a' := ?_) #[true, true, true, true, false, false, false, false, false, false] rfl rfl (by kernel_rfl) (fun _ _ _ h => h) (Or.inl ⟨by rfl, ?_⟩) hHeld ?_ ?_
  rotate_left
  · intro w' s0
    go_simp
    with_reducible rfl
  rotate_left
  · simp only [Act.put, List.setIfInBounds_toArray, List.set_cons_zero, List.set_cons_succ, i64_w, i32_w]
    rfl
  refine take_ (i := 5) (N := some 50) (v := ?_) (a' := ?_) #[true, true, true, true, false, true, false, false, false, false] rfl rfl (by kernel_rfl) (fun _ _ _ h => h) (Or.inl ⟨by rfl, ?_⟩) hHeld ?_ ?_
  rotate_left
  · intro w' s0
    go_simp
    with_reducible rfl
  rotate_left
  · simp only [Act.put, List.setIfInBounds_toArray, List.set_cons_zero, List.set_cons_succ, i64_w, i32_w]
    rfl
  refine pure_ (i := 6) (N := some 51) (v := ?_) (a' := ?_) #[true, true, true, true, false, true, true, false, false, false] rfl rfl (by kernel_rfl) (fun _ _ _ h => h) (Or.inl ⟨by rfl, ?_⟩) ?_ ?_
  rotate_left
  · intro w'
    go_simp
    with_reducible rfl
  rotate_left
  · simp only [Act.put, List.setIfInBounds_toArray, List.set_cons_zero, List.set_cons_succ, i64_w, i32_w]
    rfl
  refine join_ (σ := Value × Nat) 1 #[true, true, true, true, true, true, true, true, true, false] (fun s => [(49, .int .i64 (k : Int)), (52, s.1), (8, .pointer (some ⟨s.2, 0, none⟩))]) (fun s w' => Aside0 (TWords w w' s.1 s.2 ws b4 bad4)) ?_ ?_
  rotate_left
  · intro hCont
    refine two_ (i := 4) (j := 8) (Ni := some 49) (Nj := some 8) #[true, true, true, true, true, true, true, false, false, false] #[true, true, true, true, false, true, true, false, true, false] rfl rfl rfl rfl (by kernel_rfl) (by decide) (by decide) (fun K hK => ?_) (fun K hK => ?_)
    · skip
      refine goes_ Try.func21 (by kernel_rfl) rfl #[.pointer (some ⟨w.heap.size, 0, none⟩), .int .i64 ((n : Int) + 1)] (by rfl) rfl rfl (by simp only [List.map_toArray, List.map_cons, List.map_nil]; rfl) ?_
      with_reducible refine (HNO.out _ HI.out.rd).mono ?_
      rintro e w4 ⟨rfl, hL⟩
      refine ⟨_, rfl, ?_⟩
      have HI4 := Aside0.mk (HI.out.left hL)
      clear hL
      refine hK.out _ _ (HI4.out.c4) (fun hHeld => ?_)
      clear hK K
      refine norm_ (a' := ?_) ?_ ?_
      rotate_left
      · show Act.put _ (some 49) _ = _
        simp only [Act.put, List.setIfInBounds_toArray, List.set_cons_zero, List.set_cons_succ, i64_w, i32_w]
        rfl
      refine two_ (i := 7) (j := 8) (Ni := some 52) (Nj := some 8) #[true, true, true, true, true, true, true, true, false, false] #[true, true, true, true, true, true, true, false, true, false] rfl rfl rfl rfl (by kernel_rfl) (by decide) (by decide) (fun K hK => ?_) (fun K hK => ?_)
      · skip
        refine goes_ Try.func23 (by kernel_rfl) rfl #[.pointer (some ⟨w.heap.size, 0, none⟩), .int .i64 (k : Int), (.func (.func 22) #[.pointer (some ⟨w.heap.size, 0, none⟩)] #[])] (by rfl) rfl rfl (by simp only [List.map_toArray, List.map_cons, List.map_nil]; rfl) ?_
        with_reducible refine (HST.out _ HI4.out.rd).mono ?_
        rintro e w7 ⟨v, rfl, hR, hL⟩
        refine ⟨_, rfl, ?_⟩
        have HRR := Aside0.mk hR
        have HLL := Aside0.mk hL
        clear hR hL
        refine hK.out _ _ ((HI4.out.left HLL.out).c4) (fun hHeld => ?_)
        clear hK K
        refine norm_ (a' := ?_) ?_ ?_
        rotate_left
        · show Act.put _ (some 52) _ = _
          simp only [Act.put, List.setIfInBounds_toArray, List.set_cons_zero, List.set_cons_succ, i64_w, i32_w]
          rfl
        refine one_ (i := 8) (N := some 8) #[true, true, true, true, true, true, true, true, true, false] rfl rfl (by kernel_rfl) (by decide) (fun K hK => ?_)
        refine value_ (w1 := ?_) (v := ?_) (by rfl) rfl ?_ ?_
        rotate_left 2
        · go_simp
          constructor
          · rfl
          · rfl
        have HW := Aside0.mk (TWords.of_last HI4.out HRR.out HLL.out)
        refine hK.out _ _ (HW.out.inv.c4) (fun hHeld => ?_)
        clear hK K
        refine norm_ (a' := ?_) ?_ ?_
        rotate_left
        · show Act.put _ (some 8) _ = _
          simp only [Act.put, List.setIfInBounds_toArray, List.set_cons_zero, List.set_cons_succ, i64_w, i32_w]
          rfl
        exact norm_ (by simp only [putAll, Act.put, List.setIfInBounds_toArray, List.set_cons_zero, List.set_cons_succ]) (hCont (v, w7.heap.size) _ HW)
      · skip
        refine value_ (w1 := ?_) (v := ?_) (by rfl) rfl ?_ ?_
        rotate_left 2
        · go_simp
          constructor
          · rfl
          · rfl
        have HI48 : Aside0 (TInv w (w4.alloc (.cells #[.slice none 0 0] 22)) b3 bad3) := ⟨HI4.out.step (below_alloc (Below.refl _ _) _)⟩
        have HB48 : Aside0 ((w4.alloc (.cells #[.slice none 0 0] 22)).heap[w4.heap.size]? = some (.cells #[.slice none 0 0] 22 (0, 0))) := ⟨heap_alloc_new w4 (.cells #[.slice none 0 0] 22)⟩
        have HN48 : Aside0 (w.heap.size + 2 ≤ w4.heap.size) := ⟨HI4.out.base⟩
        refine hK.out _ _ (HI48.out.c4) (fun hHeld => ?_)
        clear hK K
        refine norm_ (a' := ?_) ?_ ?_
        rotate_left
        · show Act.put _ (some 8) _ = _
          simp only [Act.put, List.setIfInBounds_toArray, List.set_cons_zero, List.set_cons_succ, i64_w, i32_w]
          rfl
        refine one_ (i := 7) (N := some 52) #[true, true, true, true, true, true, true, true, true, false] rfl rfl (by kernel_rfl) (by decide) (fun K hK => ?_)
        refine goes_ Try.func23 (by kernel_rfl) rfl #[.pointer (some ⟨w.heap.size, 0, none⟩), .int .i64 (k : Int), (.func (.func 22) #[.pointer (some ⟨w.heap.size, 0, none⟩)] #[])] (by rfl) rfl rfl (by simp only [List.map_toArray, List.map_cons, List.map_nil]; rfl) ?_
        with_reducible refine (HST.out _ HI48.out.rd).mono ?_
        rintro e w7 ⟨v, rfl, hR, hL⟩
        refine ⟨_, rfl, ?_⟩
        have HW := Aside0.mk (TWords.of_first HI48.out HB48.out HN48.out hR hL)
        clear hR hL
        refine hK.out _ _ (HW.out.inv.c4) (fun hHeld => ?_)
        clear hK K
        refine norm_ (a' := ?_) ?_ ?_
        rotate_left
        · show Act.put _ (some 52) _ = _
          simp only [Act.put, List.setIfInBounds_toArray, List.set_cons_zero, List.set_cons_succ, i64_w, i32_w]
          rfl
        exact norm_ (by simp only [putAll, Act.put, List.setIfInBounds_toArray, List.set_cons_zero, List.set_cons_succ]) (hCont (v, w4.heap.size) _ HW)
    · skip
      refine value_ (w1 := ?_) (v := ?_) (by rfl) rfl ?_ ?_
      rotate_left 2
      · go_simp
        constructor
        · rfl
        · rfl
      have HI8 : Aside0 (TInv w (w2.alloc (.cells #[.slice none 0 0] 22)).drew b2 false) := ⟨HI.out.step (below_alloc (Below.refl _ _) _)⟩
      have HB8 : Aside0 ((w2.alloc (.cells #[.slice none 0 0] 22)).drew.heap[w2.heap.size]? = some (.cells #[.slice none 0 0] 22 (0, 0))) := ⟨heap_alloc_new w2 (.cells #[.slice none 0 0] 22)⟩
      have HN8 : Aside0 (w.heap.size + 2 ≤ w2.heap.size) := ⟨HI.out.base⟩
      refine hK.out _ _ (HI8.out.c4) (fun hHeld => ?_)
      clear hK K
      refine norm_ (a' := ?_) ?_ ?_
      rotate_left
      · show Act.put _ (some 8) _ = _
        simp only [Act.put, List.setIfInBounds_toArray, List.set_cons_zero, List.set_cons_succ, i64_w, i32_w]
        rfl
      refine one_ (i := 4) (N := some 49) #[true, true, true, true, true, true, true, false, true, false] rfl rfl (by kernel_rfl) (by decide) (fun K hK => ?_)
      refine goes_ Try.func21 (by kernel_rfl) rfl #[.pointer (some ⟨w.heap.size, 0, none⟩), .int .i64 ((n : Int) + 1)] (by rfl) rfl rfl (by simp only [List.map_toArray, List.map_cons, List.map_nil]; rfl) ?_
      with_reducible refine (HNO.out _ HI8.out.rd).mono ?_
      rintro e w4 ⟨rfl, hL⟩
      refine ⟨_, rfl, ?_⟩
      have HI84 := Aside0.mk (HI8.out.left hL)
      have HB84 := Aside0.mk (blk_left hL HB8.out HN8.out)
      have HN84 := HN8
      clear hL
      refine hK.out _ _ (HI84.out.c4) (fun hHeld => ?_)
      clear hK K
      refine norm_ (a' := ?_) ?_ ?_
      rotate_left
      · show Act.put _ (some 49) _ = _
        simp only [Act.put, List.setIfInBounds_toArray, List.set_cons_zero, List.set_cons_succ, i64_w, i32_w]
        rfl
      refine one_ (i := 7) (N := some 52) #[true, true, true, true, true, true, true, true, true, false] rfl rfl (by kernel_rfl) (by decide) (fun K hK => ?_)
      refine goes_ Try.func23 (by kernel_rfl) rfl #[.pointer (some ⟨w.heap.size, 0, none⟩), .int .i64 (k : Int), (.func (.func 22) #[.pointer (some ⟨w.heap.size, 0, none⟩)] #[])] (by rfl) rfl rfl (by simp only [List.map_toArray, List.map_cons, List.map_nil]; rfl) ?_
      with_reducible refine (HST.out _ HI84.out.rd).mono ?_
      rintro e w7 ⟨v, rfl, hR, hL⟩
      refine ⟨_, rfl, ?_⟩
      have HW := Aside0.mk (TWords.of_first HI84.out HB84.out HN84.out hR hL)
      clear hR hL
      refine hK.out _ _ (HW.out.inv.c4) (fun hHeld => ?_)
      clear hK K
      refine norm_ (a' := ?_) ?_ ?_
      rotate_left
      · show Act.put _ (some 52) _ = _
        simp only [Act.put, List.setIfInBounds_toArray, List.set_cons_zero, List.set_cons_succ, i64_w, i32_w]
        rfl
      exact norm_ (by simp only [putAll, Act.put, List.setIfInBounds_toArray, List.set_cons_zero, List.set_cons_succ]) (hCont (v, w2.heap.size) _ HW)
  rintro ⟨v, p8⟩ w9 HW
  obtain ⟨Aw, cw, hv, lw, _⟩ := R_CS HW.out.row
  simp only at hv
  subst hv
  have hHeld := HW.out.inv.c4
  have e8 := box_cell0 HW.out.blk
  have f8 := blk_frozen HW.out.blk 0
  refine norm_ (a' := ?_) ?_ ?_
  rotate_left
  · simp only [putAll, Act.put, List.setIfInBounds_toArray, List.set_cons_zero, List.set_cons_succ]
    rfl
  refine one_ (i := 9) (N := none) #[true, true, true, true, true, true, true, true, true, true] rfl rfl (by kernel_rfl) (by decide) (fun K hK => ?_)
  refine skip_ (w1 := ?_) (by rfl) rfl ?_ ?_
  rotate_left
  · go_simp
    rfl
  refine hK.out _ _ (HW.out.env.1.c4) (fun hHeld => ?_)
  clear hK K
  refine done_ (by kernel_rfl) ?_
  have H4 := Aside0.mk HW.out.env.1
  have HEN := Aside0.mk HW.out.env.2
  generalize w9.setCell ⟨p8, 0, none⟩ (.slice Aw ws.length cw) = w10 at *
  clear hHeld e8 f8 hwr hwr2 HW HI HNO HST c4 H2
  have H2 := H4
  have c4 := H2.out.c4
  have e8 := HEN.out.c8
  go_wp2_with (fail)
  refine (HSP.out p8 Aw cw _ HEN.out H2.out.rd).mono ?_; rintro e w3 ⟨v, rfl, ho, hL⟩
  have H3 := Aside0.mk (H2.out.left hL)
  clear hL c4
  obtain ⟨A5, c5, rfl, l5, hc5⟩ := R_CS ho
  have HC5 := Aside0.mk hc5
  clear ho hc5
  obtain ⟨A3, c3, hrd⟩ := H3.out.rd
  have c4 := H3.out.c4
  have d1 := hrd.cell1
  clear hrd
  go_wp2_with (fail)
  go_ret2
  exact ⟨rfl, H3.out.below⟩

set_option maxHeartbeats 8000000 in
set_option maxRecDepth 100000 in
theorem places_other (A : Option Addr) (c : Nat) (b : List Int) (w : World) (hr : Kd.C (Kd.int .u8) w A b.length b) (hc : b.length ≤ c) (hb : Bytes b) (hl : b.length < 1000000000) (n k : Nat) (b2 : List Int) (hnum : numM b false 2001 = ((n : Int), 1 :: b2, false)) (hn : n ≤ 2001) (hk : k ≤ 2002) (b3 : List Int) (bad3 : Bool) (hnum2 : numM b2 false ((n : Int) + 1) = ((k : Int), b3, bad3)) (ws : List ByteArray) (b4 : List Int) (bad4 : Bool) (hsome : someM textM k b3 bad3 = (ws, b4, bad4)) (hws : ws.length ≤ 2001) (l : List ByteArray) (b5 : List Int) (bad5 : Bool) (hsome2 : someM (placeM ws) n b4 bad4 = (l, b5, bad5)) (hb2 : Bytes b2) (hl2 : b2.length < 1000000000) (hb3 : Bytes b3) (hl3 : b3.length < 1000000000) (hb4 : Bytes b4) (hl4 : b4.length < 1000000000) (hbad : bad5 = false) (hln : l.length ≤ 2000) (hsz : ∀ s ∈ l, s.size ≤ 1000) (hput : put l ≠ b) :
    Calls Try.prog 14 #[.slice A b.length c] w fun e w' => e = .returned (.tuple #[.slice none 0 0, .int .i64 10]) ∧ Below w.heap.size w w' := by
  have HS := Aside0.mk (TInv.start w A c b hr hc)
  have HR := Aside0.mk hr
  have HBY := Aside0.mk hb
  have HLN := Aside0.mk hl
  subst hbad
  have HNO := Aside0.mk (fun W h => numberE w.heap.size b2 false ((n : Int) + 1) W h hb2 hl2 (by omega) (by omega) _ _ _ hnum2)
  clear hnum2
  have HST := Aside0.mk (fun W h => someTextE w.heap.size k b3 bad3 W (by omega) h hb3 hl3 _ _ _ hsome)
  clear hsome
  have HSP := Aside0.mk (fun p8 Aw cw W hE h => somePlaceE w.heap.size n (w.heap.size + 1) p8 Aw cw ws hws b4 bad4 W (by omega) hE h hb4 hl4 _ _ _ hsome2)
  clear hsome2
  have HSZ := Aside0.mk hsz
  clear hsz
  have hne : Aside0 (((strOfNums (put l)).toList == (strOfNums b).toList) = false) := ⟨by rw [beq_eq_false_iff_ne]; exact fun h => hput (str_inj (put_Bytes l) hb h)⟩
  clear hput
  have HN := Aside0.mk (fun W h => numberE w.heap.size b false 2001 W h HBY.out HLN.out (by omega) (by omega) _ _ _ hnum)
  clear hr hb hl
  go_enter Try.func14, Try.ntmps14
  go_wp2_with (fail)
  refine (HN.out _ HS.out.rd).mono ?_; rintro e w1 ⟨rfl, hL⟩
  have H1 := Aside0.mk (HS.out.left hL)
  clear hL HN HS
  obtain ⟨A1, cc, hrd⟩ := H1.out.rd
  have c4 := H1.out.c4
  have d0 := hrd.cell0
  have d1 := hrd.cell1
  have f0 := hrd.frozen 0
  have hcap := hrd.cap
  have HRD := Aside0.mk hrd
  clear hrd
  simp only [List.length_cons] at d0 hcap
  obtain ⟨ad, rfl, hcells⟩ := C_cells HRD.out.row (by simp)
  have hway := cells0 hcells (by simp)
  rw [List.getD_cons_zero] at hway
  clear hcells
  obtain ⟨i0, hi0, _, hs0, _⟩ := info_parts CEach.info_u8
  have hcut := fun W => cut_from (P := Try.prog) 25 5 .i64 Try.underlying25 hi0 1 hs0 (some ad) (b2.length + 1) cc 1 (by omega) (by omega) W
  clear hi0 hs0
  rw [show b2.length + 1 - (1 : Int).toNat = b2.length from rfl] at hcut
  obtain ⟨V, hV⟩ : ∃ V : Option Addr, V = (if cc = (1 : Int).toNat then some ad else (some ad).map (·.add ((1 : Int).toNat * 1))) := ⟨_, rfl⟩
  rw [← hV] at hcut
  have HVV := Aside0.mk hV
  clear hV
  go_wp2_with (fail)
  refine start_ (n := 9) (S := fun w' => w'.cell? ⟨w.heap.size + 1, 0, none⟩ = some (.pointer (some ⟨w.heap.size, 0, none⟩)) ∧ w'.cell? ⟨w.heap.size, 0, none⟩ = some (.slice (some ad) (b2.length + 1) cc)) (ds := [8]) #[false, false, false, false, false, false, false, false, false] (by kernel_rfl) rfl rfl ⟨c4, d0⟩ (fun hHeld => ?_)
  refine take_ (i := 0) (N := some 33) (v := ?_) (a' := ?_) #[true, false, false, false, false, false, false, false, false] rfl rfl (by kernel_rfl) (fun _ _ _ h => h) (Or.inl ⟨by rfl, ?_⟩) hHeld ?_ ?_
  rotate_left
  · rintro w' ⟨s0, s1⟩
    go_simp
    with_reducible rfl
  rotate_left
  · simp only [Act.put, List.setIfInBounds_toArray, List.set_cons_zero, List.set_cons_succ, i64_w, i32_w]
    rfl
  refine take_ (i := 1) (N := some 34) (v := ?_) (a' := ?_) #[true, true, false, false, false, false, false, false, false] rfl rfl (by kernel_rfl) (fun _ _ _ h => h) (Or.inl ⟨by rfl, ?_⟩) hHeld ?_ ?_
  rotate_left
  · rintro w' ⟨s0, s1⟩
    go_simp
    with_reducible rfl
  rotate_left
  · simp only [Act.put, List.setIfInBounds_toArray, List.set_cons_zero, List.set_cons_succ, i64_w, i32_w]
    rfl
  refine pure_ (i := 2) (N := some 35) (v := ?_) (a' := ?_) #[true, true, true, false, false, false, false, false, false] rfl rfl (by kernel_rfl) (fun _ _ _ h => h) (Or.inl ⟨by rfl, ?_⟩) ?_ ?_
  rotate_left
  · intro w'
    go_simp
    with_reducible rfl
  rotate_left
  · simp only [Act.put, List.setIfInBounds_toArray, List.set_cons_zero, List.set_cons_succ, i64_w, i32_w]
    rfl
  refine pure_ (i := 3) (N := some 36) (v := ?_) (a' := ?_) #[true, true, true, true, false, false, false, false, false] rfl rfl (by kernel_rfl) (fun _ _ _ h => h) (Or.inl ⟨by rfl, ?_⟩) ?_ ?_
  rotate_left
  · intro w'
    go_simp
    with_reducible rfl
  rotate_left
  · simp only [Act.put, List.setIfInBounds_toArray, List.set_cons_zero, List.set_cons_succ, i64_w, i32_w]
    rfl
  refine take_ (i := 4) (N := some 37) (v := ?_) (a' := ?_) #[true, true, true, true, true, false, false, false, false] rfl rfl (by kernel_rfl) (fun _ _ _ h => h) (Or.inl ⟨by rfl, ?_⟩) hHeld ?_ ?_
  rotate_left
  · rintro w' ⟨s0, s1⟩
    go_simp
    with_reducible rfl
  rotate_left
  · simp only [Act.put, List.setIfInBounds_toArray, List.set_cons_zero, List.set_cons_succ, i64_w, i32_w]
    rfl
  refine pure_ (i := 5) (N := some 38) (v := ?_) (a' := ?_) #[true, true, true, true, true, true, false, false, false] rfl rfl (by kernel_rfl) (fun _ _ _ h => h) (Or.inl ⟨by rfl, ?_⟩) ?_ ?_
  rotate_left
  · intro w'
    go_simp
    with_reducible rfl
  rotate_left
  · simp only [Act.put, List.setIfInBounds_toArray, List.set_cons_zero, List.set_cons_succ, i64_w, i32_w]
    rfl
  refine pure_ (i := 6) (N := some 39) (v := ?_) (a' := ?_) #[true, true, true, true, true, true, true, false, false] rfl rfl (by kernel_rfl) (fun _ _ _ h => h) (Or.inl ⟨by rfl, ?_⟩) ?_ ?_
  rotate_left
  · intro w'
    go_simp
    with_reducible rfl
  rotate_left
  · simp only [Act.put, List.setIfInBounds_toArray, List.set_cons_zero, List.set_cons_succ, i64_w, i32_w]
    rfl
  refine pure_ (i := 7) (N := some 40) (v := ?_) (a' := ?_) #[true, true, true, true, true, true, true, true, false] rfl rfl (by kernel_rfl) (fun _ _ _ h => h) (Or.inl ⟨by rfl, ?_⟩) ?_ ?_
  rotate_left
  · intro w'
    go_simp
    with_reducible rfl
  rotate_left
  · simp only [Act.put, List.setIfInBounds_toArray, List.set_cons_zero, List.set_cons_succ, i64_w, i32_w]
    rfl
  refine last_ (i := 8) (N := none) #[true, true, true, true, true, true, true, true, true] rfl rfl (by kernel_rfl) (by decide) (fun K hK => ?_)
  refine skip_ (w1 := ?_) (by rfl) rfl ?_ ?_
  rotate_left
  · go_simp
    rfl
  refine hK.out _ _ ?_
  clear hK K
  refine done_ (by kernel_rfl) ?_
  have H2 : Aside0 (TInv w (w1.setCell ⟨w.heap.size, 0, none⟩ (.slice V b2.length (cc - 1))).drew b2 false) := by
    have hd := HRD.out.drop 1 (by simp) (.slice V b2.length (cc - 1)) (by rw [HVV.out]; rfl)
    exact ⟨(H1.out.left ⟨hd, grown_set w1 _ 0 _⟩).step (below_drew (Below.refl _ _))⟩
  generalize (w1.setCell ⟨w.heap.size, 0, none⟩ (.slice V b2.length (cc - 1))).drew = w2 at *
  clear d0 d1 f0 hway hcut HRD H1 hHeld c4
  have c4 := H2.out.c4
  go_wp2_with (fail)
  have HI : Aside0 (TInv w w2.drew b2 false) := ⟨H2.out.step (below_drew (Below.refl _ _))⟩
  have hwr2 : IntKind.i64.wrap ((n : Int) + 1) = (n : Int) + 1 := IntWalk.i64_in _ (by omega)
  have hwr : wrap64 ((n : Int) + 1) = (n : Int) + 1 := wrap64_id (by omega) (by omega)
  refine start_ (n := 10) (S := fun w' => w'.cell? ⟨w.heap.size + 1, 0, none⟩ = some (.pointer (some ⟨w.heap.size, 0, none⟩))) (ds := []) #[false, false, false, false, false, false, false, false, false, false] (by kernel_rfl) rfl rfl (c4) (fun hHeld => ?_)
  refine pure_ (i := 2) (N := some 47) (v := ?_) (a' := ?_) #[false, false, true, false, false, false, false, false, false, false] rfl rfl (by kernel_rfl) (fun _ _ _ h => h) (Or.inl ⟨by rfl, ?_⟩) ?_ ?_
  rotate_left
  · intro w'
    go_simp
    with_reducible rfl
  rotate_left
  · simp only [Act.put, List.setIfInBounds_toArray, List.set_cons_zero, List.set_cons_succ, i64_w, i32_w]
    rfl
  refine pure_ (i := 3) (N := some 48) (v := ?_) (a' := ?_) #[false, false, true, true, false, false, false, false, false, false] rfl rfl (by kernel_rfl) (fun _ _ _ h => h) (Or.inl ⟨by rfl, ?_⟩) ?_ ?_
  rotate_left
  · intro w'
    go_simp
    with_reducible rfl
  rotate_left
  · simp only [Act.put, List.setIfInBounds_toArray, List.set_cons_zero, List.set_cons_succ, i64_w, i32_w]
    rfl
  refine take_ (i := 0) (N := some 45) (v := ?_) (a' := ?_) #[true, false, true, true, false, false, false, false, false, false] rfl rfl (by kernel_rfl) (fun _ _ _ h => h) (Or.inl ⟨by rfl, ?_⟩) hHeld ?_ ?_
  rotate_left
  · intro w' s0
    go_simp
    with_reducible rfl
  rotate_left
  · simp only [Act.put, List.setIfInBounds_toArray, List.set_cons_zero, List.set_cons_succ, i64_w, i32_w]
    rfl
  refine take_ (i := 1) (N := some 46) (v := ?_) (a' := ?_) #[true, true, true, true, false, false, false, false, false, false] rfl rfl (by kernel_rfl) (fun _ _ _ h => h) (Or.inl ⟨by rfl, ?_⟩) hHeld ?_ ?_
  rotate_left
  · intro w' s0
    go_simp
    with_reducible rfl
  rotate_left
  · simp only [Act.put, List.setIfInBounds_toArray, List.set_cons_zero, List.set_cons_succ, i64_w, i32_w]
    rfl
  refine take_ (i := 5) (N := some 50) (v := ?_) (a' := ?_) #[true, true, true, true, false, true, false, false, false, false] rfl rfl (by kernel_rfl) (fun _ _ _ h => h) (Or.inl ⟨by rfl, ?_⟩) hHeld ?_ ?_
  rotate_left
  · intro w' s0
    go_simp
    with_reducible rfl
  rotate_left
  · simp only [Act.put, List.setIfInBounds_toArray, List.set_cons_zero, List.set_cons_succ, i64_w, i32_w]
    rfl
  refine pure_ (i := 6) (N := some 51) (v := ?_) (a' := ?_) #[true, true, true, true, false, true, true, false, false, false] rfl rfl (by kernel_rfl) (fun _ _ _ h => h) (Or.inl ⟨by rfl, ?_⟩) ?_ ?_
  rotate_left
  · intro w'
    go_simp
    with_reducible rfl
  rotate_left
  · simp only [Act.put, List.setIfInBounds_toArray, List.set_cons_zero, List.set_cons_succ, i64_w, i32_w]
    rfl
  refine join_ (σ := Value × Nat) 1 #[true, true, true, true, true, true, true, true, true, false] (fun s => [(49, .int .i64 (k : Int)), (52, s.1), (8, .pointer (some ⟨s.2, 0, none⟩))]) (fun s w' => Aside0 (TWords w w' s.1 s.2 ws b4 bad4)) ?_ ?_
  rotate_left
  · intro hCont
    refine two_ (i := 4) (j := 8) (Ni := some 49) (Nj := some 8) #[true, true, true, true, true, true, true, false, false, false] #[true, true, true, true, false, true, true, false, true, false] rfl rfl rfl rfl (by kernel_rfl) (by decide) (by decide) (fun K hK => ?_) (fun K hK => ?_)
    · skip
      refine goes_ Try.func21 (by kernel_rfl) rfl #[.pointer (some ⟨w.heap.size, 0, none⟩), .int .i64 ((n : Int) + 1)] (by rfl) rfl rfl (by simp only [List.map_toArray, List.map_cons, List.map_nil]; rfl) ?_
      with_reducible refine (HNO.out _ HI.out.rd).mono ?_
      rintro e w4 ⟨rfl, hL⟩
      refine ⟨_, rfl, ?_⟩
      have HI4 := Aside0.mk (HI.out.left hL)
      clear hL
      refine hK.out _ _ (HI4.out.c4) (fun hHeld => ?_)
      clear hK K
      refine norm_ (a' := ?_) ?_ ?_
      rotate_left
      · show Act.put _ (some 49) _ = _
        simp only [Act.put, List.setIfInBounds_toArray, List.set_cons_zero, List.set_cons_succ, i64_w, i32_w]
        rfl
      refine two_ (i := 7) (j := 8) (Ni := some 52) (Nj := some 8) #[true, true, true, true, true, true, true, true, false, false] #[true, true, true, true, true, true, true, false, true, false] rfl rfl rfl rfl (by kernel_rfl) (by decide) (by decide) (fun K hK => ?_) (fun K hK => ?_)
      · skip
        refine goes_ Try.func23 (by kernel_rfl) rfl #[.pointer (some ⟨w.heap.size, 0, none⟩), .int .i64 (k : Int), (.func (.func 22) #[.pointer (some ⟨w.heap.size, 0, none⟩)] #[])] (by rfl) rfl rfl (by simp only [List.map_toArray, List.map_cons, List.map_nil]; rfl) ?_
        with_reducible refine (HST.out _ HI4.out.rd).mono ?_
        rintro e w7 ⟨v, rfl, hR, hL⟩
        refine ⟨_, rfl, ?_⟩
        have HRR := Aside0.mk hR
        have HLL := Aside0.mk hL
        clear hR hL
        refine hK.out _ _ ((HI4.out.left HLL.out).c4) (fun hHeld => ?_)
        clear hK K
        refine norm_ (a' := ?_) ?_ ?_
        rotate_left
        · show Act.put _ (some 52) _ = _
          simp only [Act.put, List.setIfInBounds_toArray, List.set_cons_zero, List.set_cons_succ, i64_w, i32_w]
          rfl
        refine one_ (i := 8) (N := some 8) #[true, true, true, true, true, true, true, true, true, false] rfl rfl (by kernel_rfl) (by decide) (fun K hK => ?_)
        refine value_ (w1 := ?_) (v := ?_) (by rfl) rfl ?_ ?_
        rotate_left 2
        · go_simp
          constructor
          · rfl
          · rfl
        have HW := Aside0.mk (TWords.of_last HI4.out HRR.out HLL.out)
        refine hK.out _ _ (HW.out.inv.c4) (fun hHeld => ?_)
        clear hK K
        refine norm_ (a' := ?_) ?_ ?_
        rotate_left
        · show Act.put _ (some 8) _ = _
          simp only [Act.put, List.setIfInBounds_toArray, List.set_cons_zero, List.set_cons_succ, i64_w, i32_w]
          rfl
        exact norm_ (by simp only [putAll, Act.put, List.setIfInBounds_toArray, List.set_cons_zero, List.set_cons_succ]) (hCont (v, w7.heap.size) _ HW)
      · skip
        refine value_ (w1 := ?_) (v := ?_) (by rfl) rfl ?_ ?_
        rotate_left 2
        · go_simp
          constructor
          · rfl
          · rfl
        have HI48 : Aside0 (TInv w (w4.alloc (.cells #[.slice none 0 0] 22)) b3 bad3) := ⟨HI4.out.step (below_alloc (Below.refl _ _) _)⟩
        have HB48 : Aside0 ((w4.alloc (.cells #[.slice none 0 0] 22)).heap[w4.heap.size]? = some (.cells #[.slice none 0 0] 22 (0, 0))) := ⟨heap_alloc_new w4 (.cells #[.slice none 0 0] 22)⟩
        have HN48 : Aside0 (w.heap.size + 2 ≤ w4.heap.size) := ⟨HI4.out.base⟩
        refine hK.out _ _ (HI48.out.c4) (fun hHeld => ?_)
        clear hK K
        refine norm_ (a' := ?_) ?_ ?_
        rotate_left
        · show Act.put _ (some 8) _ = _
          simp only [Act.put, List.setIfInBounds_toArray, List.set_cons_zero, List.set_cons_succ, i64_w, i32_w]
          rfl
        refine one_ (i := 7) (N := some 52) #[true, true, true, true, true, true, true, true, true, false] rfl rfl (by kernel_rfl) (by decide) (fun K hK => ?_)
        refine goes_ Try.func23 (by kernel_rfl) rfl #[.pointer (some ⟨w.heap.size, 0, none⟩), .int .i64 (k : Int), (.func (.func 22) #[.pointer (some ⟨w.heap.size, 0, none⟩)] #[])] (by rfl) rfl rfl (by simp only [List.map_toArray, List.map_cons, List.map_nil]; rfl) ?_
        with_reducible refine (HST.out _ HI48.out.rd).mono ?_
        rintro e w7 ⟨v, rfl, hR, hL⟩
        refine ⟨_, rfl, ?_⟩
        have HW := Aside0.mk (TWords.of_first HI48.out HB48.out HN48.out hR hL)
        clear hR hL
        refine hK.out _ _ (HW.out.inv.c4) (fun hHeld => ?_)
        clear hK K
        refine norm_ (a' := ?_) ?_ ?_
        rotate_left
        · show Act.put _ (some 52) _ = _
          simp only [Act.put, List.setIfInBounds_toArray, List.set_cons_zero, List.set_cons_succ, i64_w, i32_w]
          rfl
        exact norm_ (by simp only [putAll, Act.put, List.setIfInBounds_toArray, List.set_cons_zero, List.set_cons_succ]) (hCont (v, w4.heap.size) _ HW)
    · skip
      refine value_ (w1 := ?_) (v := ?_) (by rfl) rfl ?_ ?_
      rotate_left 2
      · go_simp
        constructor
        · rfl
        · rfl
      have HI8 : Aside0 (TInv w (w2.alloc (.cells #[.slice none 0 0] 22)).drew b2 false) := ⟨HI.out.step (below_alloc (Below.refl _ _) _)⟩
      have HB8 : Aside0 ((w2.alloc (.cells #[.slice none 0 0] 22)).drew.heap[w2.heap.size]? = some (.cells #[.slice none 0 0] 22 (0, 0))) := ⟨heap_alloc_new w2 (.cells #[.slice none 0 0] 22)⟩
      have HN8 : Aside0 (w.heap.size + 2 ≤ w2.heap.size) := ⟨HI.out.base⟩
      refine hK.out _ _ (HI8.out.c4) (fun hHeld => ?_)
      clear hK K
      refine norm_ (a' := ?_) ?_ ?_
      rotate_left
      · show Act.put _ (some 8) _ = _
        simp only [Act.put, List.setIfInBounds_toArray, List.set_cons_zero, List.set_cons_succ, i64_w, i32_w]
        rfl
      refine one_ (i := 4) (N := some 49) #[true, true, true, true, true, true, true, false, true, false] rfl rfl (by kernel_rfl) (by decide) (fun K hK => ?_)
      refine goes_ Try.func21 (by kernel_rfl) rfl #[.pointer (some ⟨w.heap.size, 0, none⟩), .int .i64 ((n : Int) + 1)] (by rfl) rfl rfl (by simp only [List.map_toArray, List.map_cons, List.map_nil]; rfl) ?_
      with_reducible refine (HNO.out _ HI8.out.rd).mono ?_
      rintro e w4 ⟨rfl, hL⟩
      refine ⟨_, rfl, ?_⟩
      have HI84 := Aside0.mk (HI8.out.left hL)
      have HB84 := Aside0.mk (blk_left hL HB8.out HN8.out)
      have HN84 := HN8
      clear hL
      refine hK.out _ _ (HI84.out.c4) (fun hHeld => ?_)
      clear hK K
      refine norm_ (a' := ?_) ?_ ?_
      rotate_left
      · show Act.put _ (some 49) _ = _
        simp only [Act.put, List.setIfInBounds_toArray, List.set_cons_zero, List.set_cons_succ, i64_w, i32_w]
        rfl
      refine one_ (i := 7) (N := some 52) #[true, true, true, true, true, true, true, true, true, false] rfl rfl (by kernel_rfl) (by decide) (fun K hK => ?_)
      refine goes_ Try.func23 (by kernel_rfl) rfl #[.pointer (some ⟨w.heap.size, 0, none⟩), .int .i64 (k : Int), (.func (.func 22) #[.pointer (some ⟨w.heap.size, 0, none⟩)] #[])] (by rfl) rfl rfl (by simp only [List.map_toArray, List.map_cons, List.map_nil]; rfl) ?_
      with_reducible refine (HST.out _ HI84.out.rd).mono ?_
      rintro e w7 ⟨v, rfl, hR, hL⟩
      refine ⟨_, rfl, ?_⟩
      have HW := Aside0.mk (TWords.of_first HI84.out HB84.out HN84.out hR hL)
      clear hR hL
      refine hK.out _ _ (HW.out.inv.c4) (fun hHeld => ?_)
      clear hK K
      refine norm_ (a' := ?_) ?_ ?_
      rotate_left
      · show Act.put _ (some 52) _ = _
        simp only [Act.put, List.setIfInBounds_toArray, List.set_cons_zero, List.set_cons_succ, i64_w, i32_w]
        rfl
      exact norm_ (by simp only [putAll, Act.put, List.setIfInBounds_toArray, List.set_cons_zero, List.set_cons_succ]) (hCont (v, w2.heap.size) _ HW)
  rintro ⟨v, p8⟩ w9 HW
  obtain ⟨Aw, cw, hv, lw, _⟩ := R_CS HW.out.row
  simp only at hv
  subst hv
  have hHeld := HW.out.inv.c4
  have e8 := box_cell0 HW.out.blk
  have f8 := blk_frozen HW.out.blk 0
  refine norm_ (a' := ?_) ?_ ?_
  rotate_left
  · simp only [putAll, Act.put, List.setIfInBounds_toArray, List.set_cons_zero, List.set_cons_succ]
    rfl
  refine one_ (i := 9) (N := none) #[true, true, true, true, true, true, true, true, true, true] rfl rfl (by kernel_rfl) (by decide) (fun K hK => ?_)
  refine skip_ (w1 := ?_) (by rfl) rfl ?_ ?_
  rotate_left
  · go_simp
    rfl
  refine hK.out _ _ (HW.out.env.1.c4) (fun hHeld => ?_)
  clear hK K
  refine done_ (by kernel_rfl) ?_
  have H4 := Aside0.mk HW.out.env.1
  have HEN := Aside0.mk HW.out.env.2
  generalize w9.setCell ⟨p8, 0, none⟩ (.slice Aw ws.length cw) = w10 at *
  clear hHeld e8 f8 hwr hwr2 HW HI HNO HST c4 H2
  have H2 := H4
  have c4 := H2.out.c4
  have e8 := HEN.out.c8
  go_wp2_with (fail)
  refine (HSP.out p8 Aw cw _ HEN.out H2.out.rd).mono ?_; rintro e w3 ⟨v, rfl, ho, hL⟩
  have H3 := Aside0.mk (H2.out.left hL)
  clear hL c4
  obtain ⟨A5, c5, rfl, l5, hc5⟩ := R_CS ho
  have HC5 := Aside0.mk hc5
  clear ho hc5
  obtain ⟨A3, c3, hrd⟩ := H3.out.rd
  have c4 := H3.out.c4
  have d1 := hrd.cell1
  clear hrd
  go_wp2_with (fail)
  refine (putC A5 c5 l _ HC5.out l5 hln HSZ.out).mono ?_; rintro e w4 ⟨v, rfl, ho, hb4⟩
  obtain ⟨Ap, cp, rfl, lp, hpp⟩ := R_C ho
  have HB4 := Aside0.mk (below_step H3.out.below hb4)
  have HC6 := Aside0.mk (Kd.C_below HC5.out hb4)
  have HE := Aside0.mk (Try.bytes_Equal_strs (.slice Ap (put l).length cp) (.slice A b.length c) (strOfNums (put l)) (strOfNums b) w4 (toStr1 cp Try.underlying25 Try.underlying5 Try.underlying9 hpp) (toStr1 c Try.underlying25 Try.underlying5 Try.underlying9 (Kd.C_below HR.out HB4.out)))
  clear ho hb4 hpp c4 d1
  go_wp2_with (fail)
  refine (HE.out).mono ?_; rintro e w5 ⟨rfl, hw⟩
  obtain rfl : w4 = w5 := hw.symm
  rw [hne.out]
  go_wp2_with (fail)
  go_ret2
  exact ⟨rfl, HB4.out⟩

set_option maxHeartbeats 8000000 in
set_option maxRecDepth 100000 in
theorem places_good (A : Option Addr) (c : Nat) (b : List Int) (w : World) (hr : Kd.C (Kd.int .u8) w A b.length b) (hc : b.length ≤ c) (hb : Bytes b) (hl : b.length < 1000000000) (n k : Nat) (b2 : List Int) (hnum : numM b false 2001 = ((n : Int), 1 :: b2, false)) (hn : n ≤ 2001) (hk : k ≤ 2002) (b3 : List Int) (bad3 : Bool) (hnum2 : numM b2 false ((n : Int) + 1) = ((k : Int), b3, bad3)) (ws : List ByteArray) (b4 : List Int) (bad4 : Bool) (hsome : someM textM k b3 bad3 = (ws, b4, bad4)) (hws : ws.length ≤ 2001) (l : List ByteArray) (b5 : List Int) (bad5 : Bool) (hsome2 : someM (placeM ws) n b4 bad4 = (l, b5, bad5)) (hb2 : Bytes b2) (hl2 : b2.length < 1000000000) (hb3 : Bytes b3) (hl3 : b3.length < 1000000000) (hb4 : Bytes b4) (hl4 : b4.length < 1000000000) (hbad : bad5 = false) (hln : l.length ≤ 2000) (hsz : ∀ s ∈ l, s.size ≤ 1000) (hput : put l = b) :
    Calls Try.prog 14 #[.slice A b.length c] w fun e w' => ∃ A' c', e = .returned (.tuple #[.slice A' l.length c', .int .i64 0]) ∧ l.length ≤ c' ∧ Kd.C Kd.string w' A' l.length l ∧ Below w.heap.size w w' := by
  have HS := Aside0.mk (TInv.start w A c b hr hc)
  have HR := Aside0.mk hr
  have HBY := Aside0.mk hb
  have HLN := Aside0.mk hl
  subst hbad
  have HNO := Aside0.mk (fun W h => numberE w.heap.size b2 false ((n : Int) + 1) W h hb2 hl2 (by omega) (by omega) _ _ _ hnum2)
  clear hnum2
  have HST := Aside0.mk (fun W h => someTextE w.heap.size k b3 bad3 W (by omega) h hb3 hl3 _ _ _ hsome)
  clear hsome
  have HSP := Aside0.mk (fun p8 Aw cw W hE h => somePlaceE w.heap.size n (w.heap.size + 1) p8 Aw cw ws hws b4 bad4 W (by omega) hE h hb4 hl4 _ _ _ hsome2)
  clear hsome2
  have HSZ := Aside0.mk hsz
  clear hsz
  have HP := Aside0.mk hput
  clear hput
  have HN := Aside0.mk (fun W h => numberE w.heap.size b false 2001 W h HBY.out HLN.out (by omega) (by omega) _ _ _ hnum)
  clear hr hb hl
  go_enter Try.func14, Try.ntmps14
  go_wp2_with (fail)
  refine (HN.out _ HS.out.rd).mono ?_; rintro e w1 ⟨rfl, hL⟩
  have H1 := Aside0.mk (HS.out.left hL)
  clear hL HN HS
  obtain ⟨A1, cc, hrd⟩ := H1.out.rd
  have c4 := H1.out.c4
  have d0 := hrd.cell0
  have d1 := hrd.cell1
  have f0 := hrd.frozen 0
  have hcap := hrd.cap
  have HRD := Aside0.mk hrd
  clear hrd
  simp only [List.length_cons] at d0 hcap
  obtain ⟨ad, rfl, hcells⟩ := C_cells HRD.out.row (by simp)
  have hway := cells0 hcells (by simp)
  rw [List.getD_cons_zero] at hway
  clear hcells
  obtain ⟨i0, hi0, _, hs0, _⟩ := info_parts CEach.info_u8
  have hcut := fun W => cut_from (P := Try.prog) 25 5 .i64 Try.underlying25 hi0 1 hs0 (some ad) (b2.length + 1) cc 1 (by omega) (by omega) W
  clear hi0 hs0
  rw [show b2.length + 1 - (1 : Int).toNat = b2.length from rfl] at hcut
  obtain ⟨V, hV⟩ : ∃ V : Option Addr, V = (if cc = (1 : Int).toNat then some ad else (some ad).map (·.add ((1 : Int).toNat * 1))) := ⟨_, rfl⟩
  rw [← hV] at hcut
  have HVV := Aside0.mk hV
  clear hV
  go_wp2_with (fail)
  refine start_ (n := 9) (S := fun w' => w'.cell? ⟨w.heap.size + 1, 0, none⟩ = some (.pointer (some ⟨w.heap.size, 0, none⟩)) ∧ w'.cell? ⟨w.heap.size, 0, none⟩ = some (.slice (some ad) (b2.length + 1) cc)) (ds := [8]) #[false, false, false, false, false, false, false, false, false] (by kernel_rfl) rfl rfl ⟨c4, d0⟩ (fun hHeld => ?_)
  refine take_ (i := 0) (N := some 33) (v := ?_) (a' := ?_) #[true, false, false, false, false, false, false, false, false] rfl rfl (by kernel_rfl) (fun _ _ _ h => h) (Or.inl ⟨by rfl, ?_⟩) hHeld ?_ ?_
  rotate_left
  · rintro w' ⟨s0, s1⟩
    go_simp
    with_reducible rfl
  rotate_left
  · simp only [Act.put, List.setIfInBounds_toArray, List.set_cons_zero, List.set_cons_succ, i64_w, i32_w]
    rfl
  refine take_ (i := 1) (N := some 34) (v := ?_) (a' := ?_) #[true, true, false, false, false, false, false, false, false] rfl rfl (by kernel_rfl) (fun _ _ _ h => h) (Or.inl ⟨by rfl, ?_⟩) hHeld ?_ ?_
  rotate_left
  · rintro w' ⟨s0, s1⟩
    go_simp
    with_reducible rfl
  rotate_left
  · simp only [Act.put, List.setIfInBounds_toArray, List.set_cons_zero, List.set_cons_succ, i64_w, i32_w]
    rfl
  refine pure_ (i := 2) (N := some 35) (v := ?_) (a' := ?_) #[true, true, true, false, false, false, false, false, false] rfl rfl (by kernel_rfl) (fun _ _ _ h => h) (Or.inl ⟨by rfl, ?_⟩) ?_ ?_
  rotate_left
  · intro w'
    go_simp
    with_reducible rfl
  rotate_left
  · simp only [Act.put, List.setIfInBounds_toArray, List.set_cons_zero, List.set_cons_succ, i64_w, i32_w]
    rfl
  refine pure_ (i := 3) (N := some 36) (v := ?_) (a' := ?_) #[true, true, true, true, false, false, false, false, false] rfl rfl (by kernel_rfl) (fun _ _ _ h => h) (Or.inl ⟨by rfl, ?_⟩) ?_ ?_
  rotate_left
  · intro w'
    go_simp
    with_reducible rfl
  rotate_left
  · simp only [Act.put, List.setIfInBounds_toArray, List.set_cons_zero, List.set_cons_succ, i64_w, i32_w]
    rfl
  refine take_ (i := 4) (N := some 37) (v := ?_) (a' := ?_) #[true, true, true, true, true, false, false, false, false] rfl rfl (by kernel_rfl) (fun _ _ _ h => h) (Or.inl ⟨by rfl, ?_⟩) hHeld ?_ ?_
  rotate_left
  · rintro w' ⟨s0, s1⟩
    go_simp
    with_reducible rfl
  rotate_left
  · simp only [Act.put, List.setIfInBounds_toArray, List.set_cons_zero, List.set_cons_succ, i64_w, i32_w]
    rfl
  refine pure_ (i := 5) (N := some 38) (v := ?_) (a' := ?_) #[true, true, true, true, true, true, false, false, false] rfl rfl (by kernel_rfl) (fun _ _ _ h => h) (Or.inl ⟨by rfl, ?_⟩) ?_ ?_
  rotate_left
  · intro w'
    go_simp
    with_reducible rfl
  rotate_left
  · simp only [Act.put, List.setIfInBounds_toArray, List.set_cons_zero, List.set_cons_succ, i64_w, i32_w]
    rfl
  refine pure_ (i := 6) (N := some 39) (v := ?_) (a' := ?_) #[true, true, true, true, true, true, true, false, false] rfl rfl (by kernel_rfl) (fun _ _ _ h => h) (Or.inl ⟨by rfl, ?_⟩) ?_ ?_
  rotate_left
  · intro w'
    go_simp
    with_reducible rfl
  rotate_left
  · simp only [Act.put, List.setIfInBounds_toArray, List.set_cons_zero, List.set_cons_succ, i64_w, i32_w]
    rfl
  refine pure_ (i := 7) (N := some 40) (v := ?_) (a' := ?_) #[true, true, true, true, true, true, true, true, false] rfl rfl (by kernel_rfl) (fun _ _ _ h => h) (Or.inl ⟨by rfl, ?_⟩) ?_ ?_
  rotate_left
  · intro w'
    go_simp
    with_reducible rfl
  rotate_left
  · simp only [Act.put, List.setIfInBounds_toArray, List.set_cons_zero, List.set_cons_succ, i64_w, i32_w]
    rfl
  refine last_ (i := 8) (N := none) #[true, true, true, true, true, true, true, true, true] rfl rfl (by kernel_rfl) (by decide) (fun K hK => ?_)
  refine skip_ (w1 := ?_) (by rfl) rfl ?_ ?_
  rotate_left
  · go_simp
    rfl
  refine hK.out _ _ ?_
  clear hK K
  refine done_ (by kernel_rfl) ?_
  have H2 : Aside0 (TInv w (w1.setCell ⟨w.heap.size, 0, none⟩ (.slice V b2.length (cc - 1))).drew b2 false) := by
    have hd := HRD.out.drop 1 (by simp) (.slice V b2.length (cc - 1)) (by rw [HVV.out]; rfl)
    exact ⟨(H1.out.left ⟨hd, grown_set w1 _ 0 _⟩).step (below_drew (Below.refl _ _))⟩
  generalize (w1.setCell ⟨w.heap.size, 0, none⟩ (.slice V b2.length (cc - 1))).drew = w2 at *
  clear d0 d1 f0 hway hcut HRD H1 hHeld c4
  have c4 := H2.out.c4
  go_wp2_with (fail)
  have HI : Aside0 (TInv w w2.drew b2 false) := ⟨H2.out.step (below_drew (Below.refl _ _))⟩
  have hwr2 : IntKind.i64.wrap ((n : Int) + 1) = (n : Int) + 1 := IntWalk.i64_in _ (by omega)
  have hwr : wrap64 ((n : Int) + 1) = (n : Int) + 1 := wrap64_id (by omega) (by omega)
  refine start_ (n := 10) (S := fun w' => w'.cell? ⟨w.heap.size + 1, 0, none⟩ = some (.pointer (some ⟨w.heap.size, 0, none⟩))) (ds := []) #[false, false, false, false, false, false, false, false, false, false] (by kernel_rfl) rfl rfl (c4) (fun hHeld => ?_)
  refine pure_ (i := 2) (N := some 47) (v := ?_) (a' := ?_) #[false, false, true, false, false, false, false, false, false, false] rfl rfl (by kernel_rfl) (fun _ _ _ h => h) (Or.inl ⟨by rfl, ?_⟩) ?_ ?_
  rotate_left
  · intro w'
    go_simp
    with_reducible rfl
  rotate_left
  · simp only [Act.put, List.setIfInBounds_toArray, List.set_cons_zero, List.set_cons_succ, i64_w, i32_w]
    rfl
  refine pure_ (i := 3) (N := some 48) (v := ?_) (a' := ?_) #[false, false, true, true, false, false, false, false, false, false] rfl rfl (by kernel_rfl) (fun _ _ _ h => h) (Or.inl ⟨by rfl, ?_⟩) ?_ ?_
  rotate_left
  · intro w'
    go_simp
    with_reducible rfl
  rotate_left
  · simp only [Act.put, List.setIfInBounds_toArray, List.set_cons_zero, List.set_cons_succ, i64_w, i32_w]
    rfl
  refine take_ (i := 0) (N := some 45) (v := ?_) (a' := ?_) #[true, false, true, true, false, false, false, false, false, false] rfl rfl (by kernel_rfl) (fun _ _ _ h => h) (Or.inl ⟨by rfl, ?_⟩) hHeld ?_ ?_
  rotate_left
  · intro w' s0
    go_simp
    with_reducible rfl
  rotate_left
  · simp only [Act.put, List.setIfInBounds_toArray, List.set_cons_zero, List.set_cons_succ, i64_w, i32_w]
    rfl
  refine take_ (i := 1) (N := some 46) (v := ?_) (a' := ?_) #[true, true, true, true, false, false, false, false, false, false] rfl rfl (by kernel_rfl) (fun _ _ _ h => h) (Or.inl ⟨by rfl, ?_⟩) hHeld ?_ ?_
  rotate_left
  · intro w' s0
    go_simp
    with_reducible rfl
  rotate_left
  · simp only [Act.put, List.setIfInBounds_toArray, List.set_cons_zero, List.set_cons_succ, i64_w, i32_w]
    rfl
  refine take_ (i := 5) (N := some 50) (v := ?_) (a' := ?_) #[true, true, true, true, false, true, false, false, false, false] rfl rfl (by kernel_rfl) (fun _ _ _ h => h) (Or.inl ⟨by rfl, ?_⟩) hHeld ?_ ?_
  rotate_left
  · intro w' s0
    go_simp
    with_reducible rfl
  rotate_left
  · simp only [Act.put, List.setIfInBounds_toArray, List.set_cons_zero, List.set_cons_succ, i64_w, i32_w]
    rfl
  refine pure_ (i := 6) (N := some 51) (v := ?_) (a' := ?_) #[true, true, true, true, false, true, true, false, false, false] rfl rfl (by kernel_rfl) (fun _ _ _ h => h) (Or.inl ⟨by rfl, ?_⟩) ?_ ?_
  rotate_left
  · intro w'
    go_simp
    with_reducible rfl
  rotate_left
  · simp only [Act.put, List.setIfInBounds_toArray, List.set_cons_zero, List.set_cons_succ, i64_w, i32_w]
    rfl
  refine join_ (σ := Value × Nat) 1 #[true, true, true, true, true, true, true, true, true, false] (fun s => [(49, .int .i64 (k : Int)), (52, s.1), (8, .pointer (some ⟨s.2, 0, none⟩))]) (fun s w' => Aside0 (TWords w w' s.1 s.2 ws b4 bad4)) ?_ ?_
  rotate_left
  · intro hCont
    refine two_ (i := 4) (j := 8) (Ni := some 49) (Nj := some 8) #[true, true, true, true, true, true, true, false, false, false] #[true, true, true, true, false, true, true, false, true, false] rfl rfl rfl rfl (by kernel_rfl) (by decide) (by decide) (fun K hK => ?_) (fun K hK => ?_)
    · skip
      refine goes_ Try.func21 (by kernel_rfl) rfl #[.pointer (some ⟨w.heap.size, 0, none⟩), .int .i64 ((n : Int) + 1)] (by rfl) rfl rfl (by simp only [List.map_toArray, List.map_cons, List.map_nil]; rfl) ?_
      with_reducible refine (HNO.out _ HI.out.rd).mono ?_
      rintro e w4 ⟨rfl, hL⟩
      refine ⟨_, rfl, ?_⟩
      have HI4 := Aside0.mk (HI.out.left hL)
      clear hL
      refine hK.out _ _ (HI4.out.c4) (fun hHeld => ?_)
      clear hK K
      refine norm_ (a' := ?_) ?_ ?_
      rotate_left
      · show Act.put _ (some 49) _ = _
        simp only [Act.put, List.setIfInBounds_toArray, List.set_cons_zero, List.set_cons_succ, i64_w, i32_w]
        rfl
      refine two_ (i := 7) (j := 8) (Ni := some 52) (Nj := some 8) #[true, true, true, true, true, true, true, true, false, false] #[true, true, true, true, true, true, true, false, true, false] rfl rfl rfl rfl (by kernel_rfl) (by decide) (by decide) (fun K hK => ?_) (fun K hK => ?_)
      · skip
        refine goes_ Try.func23 (by kernel_rfl) rfl #[.pointer (some ⟨w.heap.size, 0, none⟩), .int .i64 (k : Int), (.func (.func 22) #[.pointer (some ⟨w.heap.size, 0, none⟩)] #[])] (by rfl) rfl rfl (by simp only [List.map_toArray, List.map_cons, List.map_nil]; rfl) ?_
        with_reducible refine (HST.out _ HI4.out.rd).mono ?_
        rintro e w7 ⟨v, rfl, hR, hL⟩
        refine ⟨_, rfl, ?_⟩
        have HRR := Aside0.mk hR
        have HLL := Aside0.mk hL
        clear hR hL
        refine hK.out _ _ ((HI4.out.left HLL.out).c4) (fun hHeld => ?_)
        clear hK K
        refine norm_ (a' := ?_) ?_ ?_
        rotate_left
        · show Act.put _ (some 52) _ = _
          simp only [Act.put, List.setIfInBounds_toArray, List.set_cons_zero, List.set_cons_succ, i64_w, i32_w]
          rfl
        refine one_ (i := 8) (N := some 8) #[true, true, true, true, true, true, true, true, true, false] rfl rfl (by kernel_rfl) (by decide) (fun K hK => ?_)
        refine value_ (w1 := ?_) (v := ?_) (by rfl) rfl ?_ ?_
        rotate_left 2
        · go_simp
          constructor
          · rfl
          · rfl
        have HW := Aside0.mk (TWords.of_last HI4.out HRR.out HLL.out)
        refine hK.out _ _ (HW.out.inv.c4) (fun hHeld => ?_)
        clear hK K
        refine norm_ (a' := ?_) ?_ ?_
        rotate_left
        · show Act.put _ (some 8) _ = _
          simp only [Act.put, List.setIfInBounds_toArray, List.set_cons_zero, List.set_cons_succ, i64_w, i32_w]
          rfl
        exact norm_ (by simp only [putAll, Act.put, List.setIfInBounds_toArray, List.set_cons_zero, List.set_cons_succ]) (hCont (v, w7.heap.size) _ HW)
      · skip
        refine value_ (w1 := ?_) (v := ?_) (by rfl) rfl ?_ ?_
        rotate_left 2
        · go_simp
          constructor
          · rfl
          · rfl
        have HI48 : Aside0 (TInv w (w4.alloc (.cells #[.slice none 0 0] 22)) b3 bad3) := ⟨HI4.out.step (below_alloc (Below.refl _ _) _)⟩
        have HB48 : Aside0 ((w4.alloc (.cells #[.slice none 0 0] 22)).heap[w4.heap.size]? = some (.cells #[.slice none 0 0] 22 (0, 0))) := ⟨heap_alloc_new w4 (.cells #[.slice none 0 0] 22)⟩
        have HN48 : Aside0 (w.heap.size + 2 ≤ w4.heap.size) := ⟨HI4.out.base⟩
        refine hK.out _ _ (HI48.out.c4) (fun hHeld => ?_)
        clear hK K
        refine norm_ (a' := ?_) ?_ ?_
        rotate_left
        · show Act.put _ (some 8) _ = _
          simp only [Act.put, List.setIfInBounds_toArray, List.set_cons_zero, List.set_cons_succ, i64_w, i32_w]
          rfl
        refine one_ (i := 7) (N := some 52) #[true, true, true, true, true, true, true, true, true, false] rfl rfl (by kernel_rfl) (by decide) (fun K hK => ?_)
        refine goes_ Try.func23 (by kernel_rfl) rfl #[.pointer (some ⟨w.heap.size, 0, none⟩), .int .i64 (k : Int), (.func (.func 22) #[.pointer (some ⟨w.heap.size, 0, none⟩)] #[])] (by rfl) rfl rfl (by simp only [List.map_toArray, List.map_cons, List.map_nil]; rfl) ?_
        with_reducible refine (HST.out _ HI48.out.rd).mono ?_
        rintro e w7 ⟨v, rfl, hR, hL⟩
        refine ⟨_, rfl, ?_⟩
        have HW := Aside0.mk (TWords.of_first HI48.out HB48.out HN48.out hR hL)
        clear hR hL
        refine hK.out _ _ (HW.out.inv.c4) (fun hHeld => ?_)
        clear hK K
        refine norm_ (a' := ?_) ?_ ?_
        rotate_left
        · show Act.put _ (some 52) _ = _
          simp only [Act.put, List.setIfInBounds_toArray, List.set_cons_zero, List.set_cons_succ, i64_w, i32_w]
          rfl
        exact norm_ (by simp only [putAll, Act.put, List.setIfInBounds_toArray, List.set_cons_zero, List.set_cons_succ]) (hCont (v, w4.heap.size) _ HW)
    · skip
      refine value_ (w1 := ?_) (v := ?_) (by rfl) rfl ?_ ?_
      rotate_left 2
      · go_simp
        constructor
        · rfl
        · rfl
      have HI8 : Aside0 (TInv w (w2.alloc (.cells #[.slice none 0 0] 22)).drew b2 false) := ⟨HI.out.step (below_alloc (Below.refl _ _) _)⟩
      have HB8 : Aside0 ((w2.alloc (.cells #[.slice none 0 0] 22)).drew.heap[w2.heap.size]? = some (.cells #[.slice none 0 0] 22 (0, 0))) := ⟨heap_alloc_new w2 (.cells #[.slice none 0 0] 22)⟩
      have HN8 : Aside0 (w.heap.size + 2 ≤ w2.heap.size) := ⟨HI.out.base⟩
      refine hK.out _ _ (HI8.out.c4) (fun hHeld => ?_)
      clear hK K
      refine norm_ (a' := ?_) ?_ ?_
      rotate_left
      · show Act.put _ (some 8) _ = _
        simp only [Act.put, List.setIfInBounds_toArray, List.set_cons_zero, List.set_cons_succ, i64_w, i32_w]
        rfl
      refine one_ (i := 4) (N := some 49) #[true, true, true, true, true, true, true, false, true, false] rfl rfl (by kernel_rfl) (by decide) (fun K hK => ?_)
      refine goes_ Try.func21 (by kernel_rfl) rfl #[.pointer (some ⟨w.heap.size, 0, none⟩), .int .i64 ((n : Int) + 1)] (by rfl) rfl rfl (by simp only [List.map_toArray, List.map_cons, List.map_nil]; rfl) ?_
      with_reducible refine (HNO.out _ HI8.out.rd).mono ?_
      rintro e w4 ⟨rfl, hL⟩
      refine ⟨_, rfl, ?_⟩
      have HI84 := Aside0.mk (HI8.out.left hL)
      have HB84 := Aside0.mk (blk_left hL HB8.out HN8.out)
      have HN84 := HN8
      clear hL
      refine hK.out _ _ (HI84.out.c4) (fun hHeld => ?_)
      clear hK K
      refine norm_ (a' := ?_) ?_ ?_
      rotate_left
      · show Act.put _ (some 49) _ = _
        simp only [Act.put, List.setIfInBounds_toArray, List.set_cons_zero, List.set_cons_succ, i64_w, i32_w]
        rfl
      refine one_ (i := 7) (N := some 52) #[true, true, true, true, true, true, true, true, true, false] rfl rfl (by kernel_rfl) (by decide) (fun K hK => ?_)
      refine goes_ Try.func23 (by kernel_rfl) rfl #[.pointer (some ⟨w.heap.size, 0, none⟩), .int .i64 (k : Int), (.func (.func 22) #[.pointer (some ⟨w.heap.size, 0, none⟩)] #[])] (by rfl) rfl rfl (by simp only [List.map_toArray, List.map_cons, List.map_nil]; rfl) ?_
      with_reducible refine (HST.out _ HI84.out.rd).mono ?_
      rintro e w7 ⟨v, rfl, hR, hL⟩
      refine ⟨_, rfl, ?_⟩
      have HW := Aside0.mk (TWords.of_first HI84.out HB84.out HN84.out hR hL)
      clear hR hL
      refine hK.out _ _ (HW.out.inv.c4) (fun hHeld => ?_)
      clear hK K
      refine norm_ (a' := ?_) ?_ ?_
      rotate_left
      · show Act.put _ (some 52) _ = _
        simp only [Act.put, List.setIfInBounds_toArray, List.set_cons_zero, List.set_cons_succ, i64_w, i32_w]
        rfl
      exact norm_ (by simp only [putAll, Act.put, List.setIfInBounds_toArray, List.set_cons_zero, List.set_cons_succ]) (hCont (v, w2.heap.size) _ HW)
  rintro ⟨v, p8⟩ w9 HW
  obtain ⟨Aw, cw, hv, lw, _⟩ := R_CS HW.out.row
  simp only at hv
  subst hv
  have hHeld := HW.out.inv.c4
  have e8 := box_cell0 HW.out.blk
  have f8 := blk_frozen HW.out.blk 0
  refine norm_ (a' := ?_) ?_ ?_
  rotate_left
  · simp only [putAll, Act.put, List.setIfInBounds_toArray, List.set_cons_zero, List.set_cons_succ]
    rfl
  refine one_ (i := 9) (N := none) #[true, true, true, true, true, true, true, true, true, true] rfl rfl (by kernel_rfl) (by decide) (fun K hK => ?_)
  refine skip_ (w1 := ?_) (by rfl) rfl ?_ ?_
  rotate_left
  · go_simp
    rfl
  refine hK.out _ _ (HW.out.env.1.c4) (fun hHeld => ?_)
  clear hK K
  refine done_ (by kernel_rfl) ?_
  have H4 := Aside0.mk HW.out.env.1
  have HEN := Aside0.mk HW.out.env.2
  generalize w9.setCell ⟨p8, 0, none⟩ (.slice Aw ws.length cw) = w10 at *
  clear hHeld e8 f8 hwr hwr2 HW HI HNO HST c4 H2
  have H2 := H4
  have c4 := H2.out.c4
  have e8 := HEN.out.c8
  go_wp2_with (fail)
  refine (HSP.out p8 Aw cw _ HEN.out H2.out.rd).mono ?_; rintro e w3 ⟨v, rfl, ho, hL⟩
  have H3 := Aside0.mk (H2.out.left hL)
  clear hL c4
  obtain ⟨A5, c5, rfl, l5, hc5⟩ := R_CS ho
  have HC5 := Aside0.mk hc5
  clear ho hc5
  obtain ⟨A3, c3, hrd⟩ := H3.out.rd
  have c4 := H3.out.c4
  have d1 := hrd.cell1
  clear hrd
  go_wp2_with (fail)
  refine (putC A5 c5 l _ HC5.out l5 hln HSZ.out).mono ?_; rintro e w4 ⟨v, rfl, ho, hb4⟩
  obtain ⟨Ap, cp, rfl, lp, hpp⟩ := R_C ho
  have HB4 := Aside0.mk (below_step H3.out.below hb4)
  have HC6 := Aside0.mk (Kd.C_below HC5.out hb4)
  have HE := Aside0.mk (Try.bytes_Equal_strs (.slice Ap (put l).length cp) (.slice A b.length c) (strOfNums (put l)) (strOfNums b) w4 (toStr1 cp Try.underlying25 Try.underlying5 Try.underlying9 hpp) (toStr1 c Try.underlying25 Try.underlying5 Try.underlying9 (Kd.C_below HR.out HB4.out)))
  clear ho hb4 hpp c4 d1
  go_wp2_with (fail)
  refine (HE.out).mono ?_; rintro e w5 ⟨rfl, hw⟩
  obtain rfl : w4 = w5 := hw.symm
  rw [HP.out, beq_self_eq_true]
  go_wp2_with (fail)
  go_ret2
  exact ⟨A5, c5, rfl, l5, HC6.out, HB4.out⟩


end Go.Proofs.Ytnecipeckamiiaa.CTakeT2

/- CTakeT3: The contract of texts.Take, whole. -/
namespace Go.Proofs.Ytnecipeckamiiaa.CTakeT3
open Go.RowKit Go.Proofs.YtnecipeckamiiaaW.PrintWords Go.Proofs.YtnecipeckamiiaaW.PrintLast Go.Proofs.YtnecipeckamiiaaW.PrintMore Go.Proofs.Ytnecipeckamiiaa.Num Go.Proofs.Ytnecipeckamiiaa.Bits Go.Proofs.Ytnecipeckamiiaa.VarM Go.Proofs.Ytnecipeckamiiaa.TextsT Go.Proofs.Ytnecipeckamiiaa.Hold Go.Proofs.Ytnecipeckamiiaa.HoldS Go.Proofs.Ytnecipeckamiiaa.RdM Go.Proofs.Ytnecipeckamiiaa.KRd Go.Proofs.Ytnecipeckamiiaa.CNumber Go.Proofs.Ytnecipeckamiiaa.CTakeT Go.Proofs.Ytnecipeckamiiaa.CTakeT2
set_option linter.unusedVariables false

theorem read_bad (A : Option Addr) (c : Nat) (b : List Int) (w : World) (hr : Kd.C (Kd.int .u8) w A b.length b) (hc : b.length ≤ c) (hb : Bytes b) (hl : b.length < 1000000000) (hg : ¬ ((var b).2 = 0 ∨ (var b).1 > 2000 ∨ (var b).2 ≥ b.length)) (hq : (readP b).2.2 = true) :
    Calls Try.prog 14 #[.slice A b.length c] w fun e w' => e = .returned (.tuple #[.slice none 0 0, .int .i64 10]) ∧ Below w.heap.size w w' := by
  have hrg := var_range hb
  have h1 : numM b false 2001 = ((var b).1, b.drop (var b).2.toNat, false) := numM_ok (by omega)
  have hbd : Bytes (b.drop (var b).2.toNat) := hb.drop _
  have hld : (b.drop (var b).2.toNat).length ≤ b.length := by rw [List.length_drop]; omega
  have hne : (b.drop (var b).2.toNat).length ≠ 0 := by rw [List.length_drop]; omega
  obtain ⟨n, hn⟩ : ∃ n : Nat, (var b).1 = (n : Int) := ⟨(var b).1.toNat, by omega⟩
  unfold readP at hq
  rw [h1] at hq
  simp only at hq
  generalize b.drop (var b).2.toNat = d at *
  cases d with
  | nil => exact absurd rfl hne
  | cons way b2 =>
    rw [List.length_cons] at hld
    rw [hn] at h1
    rw [List.getD_cons_zero, List.drop_one, List.tail_cons, hn, Int.toNat_natCast] at hq
    have hb2 : Bytes b2 := fun x hx => hbd x (List.mem_cons_of_mem _ hx)
    by_cases hw : way = 1
    · subst hw
      rw [if_pos rfl] at hq
      have hx := numM_range hb2 false (below := (n : Int) + 1) (by omega)
      have hb3 := numM_bytes hb2 false ((n : Int) + 1)
      have hl3 := numM_len b2 false ((n : Int) + 1)
      obtain ⟨⟨x, b3, bad3⟩, hnum2⟩ : ∃ q, numM b2 false ((n : Int) + 1) = q := ⟨_, rfl⟩
      rw [hnum2] at hq hx hb3 hl3
      simp only at hq hx hb3 hl3
      obtain ⟨k, rfl⟩ : ∃ k : Nat, x = (k : Int) := ⟨x.toNat, by omega⟩
      rw [Int.toNat_natCast] at hq
      have hb4 := someM_bytes (step := textM) (fun b bad h => textM_bytes h bad) k b3 bad3 hb3
      have hl4 := someM_len (step := textM) textM_len k b3 bad3
      have hws := someM_length textM k b3 bad3
      obtain ⟨⟨ws, b4, bad4⟩, hsome⟩ : ∃ q, someM textM k b3 bad3 = q := ⟨_, rfl⟩
      rw [hsome] at hq hb4 hl4 hws
      simp only at hq hb4 hl4 hws
      obtain ⟨⟨l0, b5, bad5⟩, hsome2⟩ : ∃ q, someM (placeM ws) n b4 bad4 = q := ⟨_, rfl⟩
      rw [hsome2] at hq
      simp only at hq
      exact places_bad A c b w hr hc hb hl n k b2 h1 (by omega) (by omega) b3 bad3 hnum2 ws b4 bad4 hsome (by omega) _ b5 bad5 hsome2 hb2 (by omega) hb3 (by omega) hb4 (by omega) hq
    · rw [if_neg hw] at hq
      obtain ⟨⟨l0, b5, bad5⟩, hsome⟩ : ∃ q, someM textM n b2 false = q := ⟨_, rfl⟩
      rw [hsome] at hq
      simp only at hq
      exact each_bad A c b w hr hc hb hl n way b2 h1 (by omega) hw _ b5 bad5 hsome hb2 (by omega) hq

theorem read_other (A : Option Addr) (c : Nat) (b : List Int) (w : World) (hr : Kd.C (Kd.int .u8) w A b.length b) (hc : b.length ≤ c) (hb : Bytes b) (hl : b.length < 1000000000) (hg : ¬ ((var b).2 = 0 ∨ (var b).1 > 2000 ∨ (var b).2 ≥ b.length)) (hq : (readP b).2.2 = false) (l : List ByteArray) (hq1 : (readP b).1 = l) (hln : l.length ≤ 2000) (hsz : ∀ s ∈ l, s.size ≤ 1000) (hput : put l ≠ b) :
    Calls Try.prog 14 #[.slice A b.length c] w fun e w' => e = .returned (.tuple #[.slice none 0 0, .int .i64 10]) ∧ Below w.heap.size w w' := by
  have hrg := var_range hb
  have h1 : numM b false 2001 = ((var b).1, b.drop (var b).2.toNat, false) := numM_ok (by omega)
  have hbd : Bytes (b.drop (var b).2.toNat) := hb.drop _
  have hld : (b.drop (var b).2.toNat).length ≤ b.length := by rw [List.length_drop]; omega
  have hne : (b.drop (var b).2.toNat).length ≠ 0 := by rw [List.length_drop]; omega
  obtain ⟨n, hn⟩ : ∃ n : Nat, (var b).1 = (n : Int) := ⟨(var b).1.toNat, by omega⟩
  unfold readP at hq hq1
  rw [h1] at hq hq1
  simp only at hq hq1
  generalize b.drop (var b).2.toNat = d at *
  cases d with
  | nil => exact absurd rfl hne
  | cons way b2 =>
    rw [List.length_cons] at hld
    rw [hn] at h1
    rw [List.getD_cons_zero, List.drop_one, List.tail_cons, hn, Int.toNat_natCast] at hq hq1
    have hb2 : Bytes b2 := fun x hx => hbd x (List.mem_cons_of_mem _ hx)
    by_cases hw : way = 1
    · subst hw
      rw [if_pos rfl] at hq hq1
      have hx := numM_range hb2 false (below := (n : Int) + 1) (by omega)
      have hb3 := numM_bytes hb2 false ((n : Int) + 1)
      have hl3 := numM_len b2 false ((n : Int) + 1)
      obtain ⟨⟨x, b3, bad3⟩, hnum2⟩ : ∃ q, numM b2 false ((n : Int) + 1) = q := ⟨_, rfl⟩
      rw [hnum2] at hq hq1 hx hb3 hl3
      simp only at hq hq1 hx hb3 hl3
      obtain ⟨k, rfl⟩ : ∃ k : Nat, x = (k : Int) := ⟨x.toNat, by omega⟩
      rw [Int.toNat_natCast] at hq hq1
      have hb4 := someM_bytes (step := textM) (fun b bad h => textM_bytes h bad) k b3 bad3 hb3
      have hl4 := someM_len (step := textM) textM_len k b3 bad3
      have hws := someM_length textM k b3 bad3
      obtain ⟨⟨ws, b4, bad4⟩, hsome⟩ : ∃ q, someM textM k b3 bad3 = q := ⟨_, rfl⟩
      rw [hsome] at hq hq1 hb4 hl4 hws
      simp only at hq hq1 hb4 hl4 hws
      obtain ⟨⟨l0, b5, bad5⟩, hsome2⟩ : ∃ q, someM (placeM ws) n b4 bad4 = q := ⟨_, rfl⟩
      rw [hsome2] at hq hq1
      simp only at hq hq1
      subst hq1
      exact places_other A c b w hr hc hb hl n k b2 h1 (by omega) (by omega) b3 bad3 hnum2 ws b4 bad4 hsome (by omega) _ b5 bad5 hsome2 hb2 (by omega) hb3 (by omega) hb4 (by omega) hq hln hsz hput
    · rw [if_neg hw] at hq hq1
      obtain ⟨⟨l0, b5, bad5⟩, hsome⟩ : ∃ q, someM textM n b2 false = q := ⟨_, rfl⟩
      rw [hsome] at hq hq1
      simp only at hq hq1
      subst hq1
      exact each_other A c b w hr hc hb hl n way b2 h1 (by omega) hw _ b5 bad5 hsome hb2 (by omega) hq hln hsz hput

theorem read_good (A : Option Addr) (c : Nat) (b : List Int) (w : World) (hr : Kd.C (Kd.int .u8) w A b.length b) (hc : b.length ≤ c) (hb : Bytes b) (hl : b.length < 1000000000) (hg : ¬ ((var b).2 = 0 ∨ (var b).1 > 2000 ∨ (var b).2 ≥ b.length)) (hq : (readP b).2.2 = false) (l : List ByteArray) (hq1 : (readP b).1 = l) (hln : l.length ≤ 2000) (hsz : ∀ s ∈ l, s.size ≤ 1000) (hput : put l = b) :
    Calls Try.prog 14 #[.slice A b.length c] w fun e w' => ∃ A' c', e = .returned (.tuple #[.slice A' l.length c', .int .i64 0]) ∧ l.length ≤ c' ∧ Kd.C Kd.string w' A' l.length l ∧ Below w.heap.size w w' := by
  have hrg := var_range hb
  have h1 : numM b false 2001 = ((var b).1, b.drop (var b).2.toNat, false) := numM_ok (by omega)
  have hbd : Bytes (b.drop (var b).2.toNat) := hb.drop _
  have hld : (b.drop (var b).2.toNat).length ≤ b.length := by rw [List.length_drop]; omega
  have hne : (b.drop (var b).2.toNat).length ≠ 0 := by rw [List.length_drop]; omega
  obtain ⟨n, hn⟩ : ∃ n : Nat, (var b).1 = (n : Int) := ⟨(var b).1.toNat, by omega⟩
  unfold readP at hq hq1
  rw [h1] at hq hq1
  simp only at hq hq1
  generalize b.drop (var b).2.toNat = d at *
  cases d with
  | nil => exact absurd rfl hne
  | cons way b2 =>
    rw [List.length_cons] at hld
    rw [hn] at h1
    rw [List.getD_cons_zero, List.drop_one, List.tail_cons, hn, Int.toNat_natCast] at hq hq1
    have hb2 : Bytes b2 := fun x hx => hbd x (List.mem_cons_of_mem _ hx)
    by_cases hw : way = 1
    · subst hw
      rw [if_pos rfl] at hq hq1
      have hx := numM_range hb2 false (below := (n : Int) + 1) (by omega)
      have hb3 := numM_bytes hb2 false ((n : Int) + 1)
      have hl3 := numM_len b2 false ((n : Int) + 1)
      obtain ⟨⟨x, b3, bad3⟩, hnum2⟩ : ∃ q, numM b2 false ((n : Int) + 1) = q := ⟨_, rfl⟩
      rw [hnum2] at hq hq1 hx hb3 hl3
      simp only at hq hq1 hx hb3 hl3
      obtain ⟨k, rfl⟩ : ∃ k : Nat, x = (k : Int) := ⟨x.toNat, by omega⟩
      rw [Int.toNat_natCast] at hq hq1
      have hb4 := someM_bytes (step := textM) (fun b bad h => textM_bytes h bad) k b3 bad3 hb3
      have hl4 := someM_len (step := textM) textM_len k b3 bad3
      have hws := someM_length textM k b3 bad3
      obtain ⟨⟨ws, b4, bad4⟩, hsome⟩ : ∃ q, someM textM k b3 bad3 = q := ⟨_, rfl⟩
      rw [hsome] at hq hq1 hb4 hl4 hws
      simp only at hq hq1 hb4 hl4 hws
      obtain ⟨⟨l0, b5, bad5⟩, hsome2⟩ : ∃ q, someM (placeM ws) n b4 bad4 = q := ⟨_, rfl⟩
      rw [hsome2] at hq hq1
      simp only at hq hq1
      subst hq1
      exact places_good A c b w hr hc hb hl n k b2 h1 (by omega) (by omega) b3 bad3 hnum2 ws b4 bad4 hsome (by omega) _ b5 bad5 hsome2 hb2 (by omega) hb3 (by omega) hb4 (by omega) hq hln hsz hput
    · rw [if_neg hw] at hq hq1
      obtain ⟨⟨l0, b5, bad5⟩, hsome⟩ : ∃ q, someM textM n b2 false = q := ⟨_, rfl⟩
      rw [hsome] at hq hq1
      simp only at hq hq1
      subst hq1
      exact each_good A c b w hr hc hb hl n way b2 h1 (by omega) hw _ b5 bad5 hsome hb2 (by omega) hq hln hsz hput

theorem take_none (A : Option Addr) (c : Nat) (b : List Int) (w : World) (hr : Kd.C (Kd.int .u8) w A b.length b) (hc : b.length ≤ c) (hb : Bytes b) (hl : b.length < 1000000000) (ht : takeM b = none) :
    Calls Try.prog 14 #[.slice A b.length c] w fun e w' => e = .returned (.tuple #[.slice none 0 0, .int .i64 10]) ∧ Below w.heap.size w w' := by
  have hrg := var_range hb
  by_cases hg : (var b).2 = 0 ∨ (var b).1 > 2000 ∨ (var b).2 ≥ b.length
  · by_cases h1 : (var b).2 = 0 ∨ (var b).1 ≥ 2001
    · exact guard_bad A c b w hr hc hb hl 0 b true (numM_bad h1 false) rfl
    · obtain ⟨n, hn⟩ : ∃ n : Nat, (var b).1 = (n : Int) := ⟨(var b).1.toNat, by omega⟩
      exact guard_empty A c b w hr hc hb hl n (b.drop (var b).2.toNat) false (by rw [numM_ok h1, hn]) rfl (List.drop_of_length_le (by omega))
  · have h2 := readP_takeL hb hg
    unfold takeM at ht
    rw [if_neg hg] at ht
    cases hT : takeL b with
    | none => rw [hT] at h2; exact read_bad A c b w hr hc hb hl hg h2
    | some l =>
      rw [hT] at h2 ht
      have hs := takeL_size hT
      refine read_other A c b w hr hc hb hl hg h2.2 l h2.1 (by omega) (fun s h => by have := hs.2 s h; omega) (fun hp => ?_)
      rw [Option.bind_some, if_pos hp] at ht
      cases ht
theorem take_some (A : Option Addr) (c : Nat) (b : List Int) (w : World) (hr : Kd.C (Kd.int .u8) w A b.length b) (hc : b.length ≤ c) (hb : Bytes b) (hl : b.length < 1000000000) (l : List ByteArray) (ht : takeM b = some l) :
    Calls Try.prog 14 #[.slice A b.length c] w fun e w' => ∃ A' c', e = .returned (.tuple #[.slice A' l.length c', .int .i64 0]) ∧ l.length ≤ c' ∧ Kd.C Kd.string w' A' l.length l ∧ Below w.heap.size w w' := by
  obtain ⟨hput, hln, hT⟩ := takeM_some ht
  by_cases hg : (var b).2 = 0 ∨ (var b).1 > 2000 ∨ (var b).2 ≥ b.length
  · unfold takeM at ht
    rw [if_pos hg] at ht
    cases ht
  · have h2 := readP_takeL hb hg
    rw [hT] at h2
    have hs := takeL_size hT
    exact read_good A c b w hr hc hb hl hg h2.2 l h2.1 hln (fun s h => by have := hs.2 s h; omega) hput
end Go.Proofs.Ytnecipeckamiiaa.CTakeT3

/- RowS: A parameter '[]string', opened: the texts that it holds. -/
namespace Go.Proofs.Ytnecipeckamiiaa.RowS
open Go.RowKit Go.Deep Go.ChangeShapes Go.WideShapes Go.Proofs.YtnecipeckamiiaaW.PrintWords
theorem open_row {H : Type} {enc : TypeId × Value → H} {P : Program} {W : World} {base : Nat} {spare : Nat → Bool} {held : Bool} {t e : TypeId} {a : Option Addr} {len cap : Nat} {d : DataW H} {ps : List MemPlace} {ts : List TypeId} {ds : List (DataW H)} {j : Nat}
    (hsz : (DataW.weightsEach P ts ds).all (· ≤ reachBytes) = true) (ht : ts[j]? = some t) (hd : ds[j]? = some d) (hu : P.underlying t = some (.slice e)) (he : P.underlying e = some .string) (hc : P.cellsOf e = 1) (hB : P.bytesOf e = 16)
    (h : DataW.Trod enc P W base spare held t (.slice a len cap) d ps) : ∃ l : List ByteArray, len = l.length ∧ Kd.C Kd.string W a l.length l ∧ l.length ≤ cap ∧ l.length * 16 ≤ 140737488351232 := by
  obtain ⟨fuel, hf⟩ := h
  rcases open_strs hu he hc hf with ⟨hcs, _⟩ | ⟨x, l, c, m, Sx, hcs, _, hl, hm, hmm, hx, hcell⟩
  · simp [Value.cells] at hcs
    obtain ⟨rfl, rfl, rfl⟩ := hcs
    exact ⟨[], rfl, Kd.C_of_reads (d := ByteArray.empty) (h1 := fun _ => rfl) ⟨rfl, by simp, fun h0 => absurd h0 (by simp)⟩, Nat.le_refl _, by simp⟩
  · simp [Value.cells] at hcs
    obtain ⟨rfl, rfl, rfl⟩ := hcs
    obtain ⟨hx, _⟩ := Prod.mk.inj hx
    subst hx
    have z := sized_slice hsz ht hd hu
    rw [hB, List.length_map, List.length_range, List.length_map, List.length_range] at z
    have hlm : len ≤ m := by rw [hmm]; split <;> omega
    have hll : ((List.range len).map Sx).length = len := by simp
    refine ⟨(List.range len).map Sx, hll.symm, ?_, by rw [hll]; exact hl, ?_⟩
    · rw [hll]
      refine Kd.C_of_reads (d := ByteArray.empty) (h1 := fun _ => rfl) ⟨hll, by unfold maxLen at hm; omega, fun _ => ⟨x, rfl, fun i hi => ?_⟩⟩
      rw [(hcell i (by omega)).1, List.getD_eq_getElem?_getD]
      simp [hi]
    · rw [hll]
      have : reachBytes = 140737488351232 := rfl
      rw [this] at z
      omega
end Go.Proofs.Ytnecipeckamiiaa.RowS
