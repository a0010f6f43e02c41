/- Contracts of the program's functions, as the walks of the law use them. -/
import Derived.Test.YtbjeejimedhniaaGreatDoorC11
import Derived.Test.YtbjeejimedhniaaGreatDoorC10
import Derived.Test.YtbjeejimedhniaaGreatDoorC3
import Derived.Test.YtbjeejimedhniaaGreatDoorC4
import Derived.BigRegion
import Derived.RegionTactic
import Derived.Deep.DeepCutAuto
namespace Go.Proofs.YtbjeejimedhniaaGreatDoor
namespace P2
open P1
variable {α : Type}
/-- An order of those of which P is true. -/
structure Ord (c : α → α → Int) (P : α → Prop) : Prop where
  sym : ∀ a b, P a → P b → (c a b < 0 ↔ 0 < c b a)
  trans : ∀ a b d, P a → P b → P d → c a b ≤ 0 → c b d ≤ 0 → c a d ≤ 0
theorem Ord.refl {c : α → α → Int} {P : α → Prop} (h : Ord c P) {a : α} (ha : P a) : c a a = 0 := by
  have := h.sym a a ha ha; omega
theorem Ord.zero {c : α → α → Int} {P : α → Prop} (h : Ord c P) {a b : α} (ha : P a) (hb : P b) (e : c a b = 0) : c b a = 0 := by
  have h1 := h.sym a b ha hb; have h2 := h.sym b a hb ha; omega
theorem Ord.ge {c : α → α → Int} {P : α → Prop} (h : Ord c P) {a b : α} (ha : P a) (hb : P b) (e : 0 ≤ c a b) : c b a ≤ 0 := by
  have h1 := h.sym a b ha hb; have h2 := h.sym b a hb ha; omega
theorem Ord.le {c : α → α → Int} {P : α → Prop} (h : Ord c P) {a b : α} (ha : P a) (hb : P b) (e : c a b ≤ 0) : 0 ≤ c b a := by
  have h1 := h.sym a b ha hb; have h2 := h.sym b a hb ha; omega
theorem Ord.eqv {c : α → α → Int} {P : α → Prop} (h : Ord c P) {a b k : α} (ha : P a) (hb : P b) (hk : P k) (e1 : c a k = 0) (e2 : c b k = 0) : c a b = 0 := by
  have h1 := h.trans a k b ha hk hb (by omega) (by have := h.zero hb hk e2; omega)
  have h2 := h.trans b k a hb hk ha (by omega) (by have := h.zero ha hk e1; omega)
  have := h.le hb ha h2; omega
abbrev Srt (c : α → α → Int) (l : List α) : Prop := l.Pairwise fun a b => c a b ≤ 0
/-- Those of one key. -/
def cls (c : α → α → Int) (k : α) (l : List α) : List α := l.filter fun a => decide (c a k = 0)
theorem cls_append (c : α → α → Int) (k : α) (l m : List α) : cls c k (l ++ m) = cls c k l ++ cls c k m := List.filter_append ..
theorem cls_nil {c : α → α → Int} {k : α} {l : List α} (h : ∀ a ∈ l, c a k ≠ 0) : cls c k l = [] := by
  rw [cls, List.filter_eq_nil_iff]; intro a ha; simpa using h a ha
theorem cls_mem {c : α → α → Int} {k a : α} {l : List α} : a ∈ cls c k l ↔ a ∈ l ∧ c a k = 0 := by simp [cls]
/-- In order, and of one key the same ones: the same list. -/
theorem stable_unique {c : α → α → Int} {P : α → Prop} (h : Ord c P) : ∀ l m : List α, (∀ a ∈ l, P a) → (∀ a ∈ m, P a) → Srt c l → Srt c m → (∀ k, P k → cls c k l = cls c k m) → l = m := by
  intro l
  induction l with
  | nil =>
    intro m _ hm _ _ hf
    cases m with
    | nil => rfl
    | cons b m =>
      have hb := hm b (List.mem_cons_self ..)
      have : b ∈ cls c b (b :: m) := cls_mem.2 ⟨List.mem_cons_self .., h.refl hb⟩
      rw [← hf b hb] at this; cases this
  | cons a l ih =>
    intro m hl hm sl sm hf
    have ha := hl a (List.mem_cons_self ..)
    cases m with
    | nil =>
      have : a ∈ cls c a (a :: l) := cls_mem.2 ⟨List.mem_cons_self .., h.refl ha⟩
      rw [hf a ha] at this; cases this
    | cons b m =>
      have hb := hm b (List.mem_cons_self ..)
      have h1 : c b a ≤ 0 := by
        have : a ∈ cls c a (b :: m) := by rw [← hf a ha]; exact cls_mem.2 ⟨List.mem_cons_self .., h.refl ha⟩
        rcases List.mem_cons.1 (cls_mem.1 this).1 with e | e
        · rw [e, h.refl hb]; omega
        · exact (List.pairwise_cons.1 sm).1 a e
      have h2 : c a b ≤ 0 := by
        have : b ∈ cls c b (a :: l) := by rw [hf b hb]; exact cls_mem.2 ⟨List.mem_cons_self .., h.refl hb⟩
        rcases List.mem_cons.1 (cls_mem.1 this).1 with e | e
        · rw [e, h.refl ha]; omega
        · exact (List.pairwise_cons.1 sl).1 b e
      have h0 : c b a = 0 := by have := h.le ha hb h2; omega
      have hfa := hf a ha
      rw [cls, cls, List.filter_cons_of_pos (by simp [h.refl ha]), List.filter_cons_of_pos (by simp [h0])] at hfa
      injection hfa with e1 e2
      subst e1
      congr 1
      refine ih m (fun x hx => hl x (List.mem_cons_of_mem _ hx)) (fun x hx => hm x (List.mem_cons_of_mem _ hx)) (List.pairwise_cons.1 sl).2 (List.pairwise_cons.1 sm).2 (fun k hk => ?_)
      have := hf k hk
      rw [cls, cls] at this
      by_cases hak : c a k = 0
      · rw [List.filter_cons_of_pos (by simp [hak]), List.filter_cons_of_pos (by simp [hak])] at this
        injection this
      · rwa [List.filter_cons_of_neg (by simp [hak]), List.filter_cons_of_neg (by simp [hak])] at this
/-! ### the merge -/
abbrev Src (α : Type) := List α × Nat
def ltS (c : α → α → Int) (x y : Src α) : Bool := match x.1, y.1 with
  | a :: _, b :: _ => if c a b = 0 then decide (x.2 < y.2) else decide (c a b < 0)
  | _, _ => false
theorem ltS_ok {c : α → α → Int} {P : α → Prop} (h : Ord c P) : LtOk (ltS c) (fun x => x.1 ≠ [] ∧ ∀ r ∈ x.1, P r) where
  asym := by
    rintro ⟨x, i⟩ ⟨y, j⟩ ⟨hx, px⟩ ⟨hy, py⟩ hl
    obtain ⟨a, as1, rfl⟩ := List.exists_cons_of_ne_nil hx
    obtain ⟨b, bs, rfl⟩ := List.exists_cons_of_ne_nil hy
    have pa := px a (List.mem_cons_self ..)
    have pb := py b (List.mem_cons_self ..)
    simp only [ltS] at hl ⊢
    by_cases h0 : c a b = 0
    · rw [if_pos h0] at hl; rw [if_pos (h.zero pa pb h0)]; simp at hl ⊢; omega
    · rw [if_neg h0] at hl; rw [if_neg (fun e => h0 (h.zero pb pa e))]
      have := (h.sym a b pa pb).1 (by simpa using hl)
      simp; omega
  trans := by
    rintro ⟨x, i⟩ ⟨y, j⟩ ⟨z, k⟩ ⟨hx, px⟩ ⟨hy, py⟩ ⟨hz, pz⟩ h1 h2
    obtain ⟨a, as1, rfl⟩ := List.exists_cons_of_ne_nil hx
    obtain ⟨b, bs, rfl⟩ := List.exists_cons_of_ne_nil hy
    obtain ⟨d, ds, rfl⟩ := List.exists_cons_of_ne_nil hz
    have pa := px a (List.mem_cons_self ..)
    have pb := py b (List.mem_cons_self ..)
    have pd := pz d (List.mem_cons_self ..)
    simp only [ltS] at h1 h2 ⊢
    have g1 : 0 ≤ c b a := by
      by_cases e : c b a = 0
      · omega
      · rw [if_neg e] at h1; simpa using h1
    have g2 : 0 ≤ c d b := by
      by_cases e : c d b = 0
      · omega
      · rw [if_neg e] at h2; simpa using h2
    have g3 := h.trans a b d pa pb pd (h.ge pb pa g1) (h.ge pd pb g2)
    have g4 := h.le pa pd g3
    by_cases e : c d a = 0
    · rw [if_pos e]
      have e1 : c b a = 0 := by
        have h3 := h.trans b d a pb pd pa (h.ge pd pb g2) (by omega)
        omega
      have e2 : c d b = 0 := by
        have h3 := h.trans d a b pd pa pb (by omega) (h.ge pb pa g1)
        omega
      rw [if_pos e1] at h1; rw [if_pos e2] at h2
      simp at h1 h2 ⊢; omega
    · rw [if_neg e]; simp; omega
/-- A source that is used up, struck. -/
def popF (c : α → α → Int) (l : List (Src α)) : List (Src α) := (downF (ltS c) ([], 0) (l.length - 1) (l.length) 0 (sw ([], 0) l 0 (l.length - 1))).take (l.length - 1)
def fixF (c : α → α → Int) (l : List (Src α)) : List (Src α) := downF (ltS c) ([], 0) l.length (l.length + 1) 0 l
def mergeF (c : α → α → Int) : Nat → List (Src α) → List α → List α
  | 0, _, out => out
  | _ + 1, [], out => out
  | _ + 1, ([], _) :: _, out => out
  | f + 1, (r :: rs, i) :: t, out => if rs = [] then mergeF c f (popF c (([], i) :: t)) (out ++ [r]) else mergeF c f (fixF c ((rs, i) :: t)) (out ++ [r])
/-- What is left, as1 sources. -/
def srcs (rem : List (List α)) : List (Src α) := rem.zipIdx.filter fun x => !x.1.isEmpty
def mergeR (c : α → α → Int) (ls : List (List α)) : List α := mergeF c ls.flatten.length (initF (ltS c) ([], 0) (srcs ls).length ((srcs ls).length / 2) (srcs ls)) []
theorem srcs_split (A B : List (List α)) (x : List α) : srcs (A ++ x :: B) = srcs A ++ ((if x = [] then [] else [(x, A.length)]) ++ (B.zipIdx (A.length + 1)).filter fun x => !x.1.isEmpty) := by
  rw [srcs, List.zipIdx_append, List.filter_append, List.zipIdx_cons, Nat.zero_add]
  congr 1
  cases x with
  | nil => simp
  | cons a x => simp
theorem srcs_mem {rem : List (List α)} {x : List α} {i : Nat} : (x, i) ∈ srcs rem ↔ rem[i]? = some x ∧ x ≠ [] := by
  rw [srcs, List.mem_filter, List.mem_zipIdx_iff_getElem?]
  simp
theorem take_perm {β : Type} {l : List β} {x : β} {t : List β} {n : Nat} (d : β) (hl : l.length = n + 1) (hx : l.getD n d = x) (hp : l.Perm (x :: t)) : (l.take n).Perm t := by
  have h1 : l = l.take n ++ [x] := by
    rw [← hx, List.getD_eq_getElem?_getD, List.getElem?_eq_getElem (by omega)]
    have := List.take_succ_eq_append_getElem (l := l) (i := n) (by omega)
    rw [Option.getD_some, ← this, List.take_of_length_le (by omega)]
  rw [h1] at hp
  rw [h1, List.take_left' (by rw [List.length_take]; omega)]
  exact (List.perm_append_singleton x _ |>.symm.trans hp).cons_inv
theorem mergeF_ok {c : α → α → Int} {P : α → Prop} (h : Ord c P) : ∀ f (l : List (Src α)) (rem : List (List α)) (out : List α), rem.flatten.length ≤ f → l.Perm (srcs rem) → Heap (ltS c) ([], 0) l.length 0 l → (∀ x ∈ rem, Srt c x ∧ ∀ r ∈ x, P r) →
    ∃ M, mergeF c f l out = out ++ M ∧ M.Perm rem.flatten ∧ Srt c M ∧ ∀ k, P k → cls c k M = cls c k rem.flatten := by
  intro f
  induction f with
  | zero =>
    intro l rem out hf hp hh hr
    have h0 : rem.flatten = [] := List.eq_nil_of_length_eq_zero (by omega)
    exact ⟨[], by simp [mergeF], by rw [h0], .nil, fun k _ => by rw [h0]⟩
  | succ f ih =>
    intro l rem out hf hp hh hr
    have hQ : ∀ x ∈ l, x.1 ≠ [] ∧ ∀ r ∈ x.1, P r := by
      rintro ⟨x, i⟩ hx
      obtain ⟨h1, h2⟩ := srcs_mem.1 (hp.mem_iff.1 hx)
      exact ⟨h2, (hr x (List.mem_of_getElem? h1)).2⟩
    match l, hp, hh, hQ with
    | [], hp, hh, hQ =>
      have hs : srcs rem = [] := List.Perm.nil_eq hp |>.symm
      have h0 : rem.flatten = [] := by
        rw [List.flatten_eq_nil_iff]
        intro x hx
        obtain ⟨i, hi⟩ := List.getElem?_of_mem hx
        by_cases e : x = []
        · exact e
        · have := srcs_mem.2 ⟨hi, e⟩; rw [hs] at this; cases this
      exact ⟨[], by simp [mergeF], by rw [h0], .nil, fun k _ => by rw [h0]⟩
    | ([], i) :: t, hp, hh, hQ => exact absurd rfl (hQ ([], i) (List.mem_cons_self ..)).1
    | (r :: rs, i) :: t, hp, hh, hQ =>
      have hri := (srcs_mem.1 (hp.mem_iff.1 (List.mem_cons_self ..))).1
      obtain ⟨hil, hie⟩ := List.getElem?_eq_some_iff.1 hri
      obtain ⟨A, B, rfl, hA⟩ : ∃ A B, rem = A ++ (r :: rs) :: B ∧ A.length = i := ⟨rem.take i, rem.drop (i + 1), by rw [← hie, List.getElem_cons_drop, List.take_append_drop], by rw [List.length_take]; omega⟩
      have hrs := hr (r :: rs) (by simp)
      have Pr := hrs.2 r (List.mem_cons_self ..)
      -- nothing is less
      have hmin : ∀ j x, (A ++ (r :: rs) :: B)[j]? = some x → ∀ a as1, x = a :: as1 → c a r = 0 ∧ i ≤ j ∨ 0 < c a r := by
        intro j x hj a as1 hx
        have hm : (x, j) ∈ srcs (A ++ (r :: rs) :: B) := srcs_mem.2 ⟨hj, by rw [hx]; exact List.cons_ne_nil _ _⟩
        obtain ⟨m, hml, hme⟩ := List.getElem_of_mem (hp.mem_iff.2 hm)
        have := heap_min (ltS_ok h) ([], 0) _ _ (getD_all rfl hQ) hh m hml
        rw [List.getD_eq_getElem?_getD, List.getElem?_eq_getElem hml, hme, List.getD_eq_getElem?_getD] at this
        simp only [Option.getD_some, List.length_cons, Nat.zero_lt_succ, List.getElem?_eq_getElem, List.getElem_cons_zero, hx, ltS] at this
        by_cases h0 : c a r = 0
        · rw [if_pos h0] at this; simp at this; exact .inl ⟨h0, this⟩
        · rw [if_neg h0] at this; simp at this; exact .inr (by omega)
      have hnil : ∀ k, P k → c r k = 0 → cls c k A.flatten = [] := by
        intro k hk hrk
        refine cls_nil fun x hx hxk => ?_
        obtain ⟨y, hy, hxy⟩ := List.mem_flatten.1 hx
        obtain ⟨j, hj⟩ := List.getElem?_of_mem hy
        have hjl := (List.getElem?_eq_some_iff.1 hj).1
        have hyr := hr y (by simp [hy])
        cases y with
        | nil => cases hxy
        | cons a as1 =>
          have Pa := hyr.2 a (List.mem_cons_self ..)
          have Px := hyr.2 x hxy
          have h1 := hmin j (a :: as1) (by rw [List.getElem?_append_left hjl]; exact hj) a as1 rfl
          have h2 : c x r = 0 := h.eqv Px Pr hk hxk hrk
          have h3 : c a x ≤ 0 := by
            rcases List.mem_cons.1 hxy with e | e
            · rw [e, h.refl Pa]; omega
            · exact (List.pairwise_cons.1 hyr.1).1 x e
          have h4 := h.trans a x r Pa Px Pr h3 (by omega)
          rcases h1 with ⟨_, h1⟩ | h1 <;> omega
      have hle : ∀ y ∈ (A ++ rs :: B).flatten, c r y ≤ 0 := by
        intro y hy
        obtain ⟨z, hz, hyz⟩ := List.mem_flatten.1 hy
        have hcase : y ∈ rs ∨ ∃ z ∈ A ++ (r :: rs) :: B, y ∈ z := by
          rcases List.mem_append.1 hz with e | e
          · exact .inr ⟨z, by simp [e], hyz⟩
          · rcases List.mem_cons.1 e with e | e
            · exact .inl (e ▸ hyz)
            · exact .inr ⟨z, by simp [e], hyz⟩
        rcases hcase with e | ⟨z, hz, hyz⟩
        · exact (List.pairwise_cons.1 hrs.1).1 y e
        · obtain ⟨j, hj⟩ := List.getElem?_of_mem hz
          have hzr := hr z hz
          cases z with
          | nil => cases hyz
          | cons a as1 =>
            have Pa := hzr.2 a (List.mem_cons_self ..)
            have Py := hzr.2 y hyz
            have h1 := hmin j _ hj a as1 rfl
            have h2 : c r a ≤ 0 := h.ge Pa Pr (by rcases h1 with ⟨h1, _⟩ | h1 <;> omega)
            have h3 : c a y ≤ 0 := by
              rcases List.mem_cons.1 hyz with e | e
              · rw [e, h.refl Pa]; omega
              · exact (List.pairwise_cons.1 hzr.1).1 y e
            exact h.trans r a y Pr Pa Py h2 h3
      have hr' : ∀ x ∈ A ++ rs :: B, Srt c x ∧ ∀ r ∈ x, P r := by
        intro x hx
        rcases List.mem_append.1 hx with e | e
        · exact hr x (by simp [e])
        · rcases List.mem_cons.1 e with e | e
          · subst e; exact ⟨(List.pairwise_cons.1 hrs.1).2, fun y hy => hrs.2 y (List.mem_cons_of_mem _ hy)⟩
          · exact hr x (by simp [e])
      have hf' : (A ++ rs :: B).flatten.length ≤ f := by
        simp only [List.flatten_append, List.flatten_cons, List.length_append, List.length_cons] at hf ⊢; omega
      have ht : t.Perm (srcs A ++ ((B.zipIdx (A.length + 1)).filter fun x => !x.1.isEmpty)) := by
        rw [srcs_split, if_neg (List.cons_ne_nil _ _), hA] at hp
        have := hp.trans List.perm_middle
        rw [hA]
        exact this.cons_inv
      have fin : ∀ l', l'.Perm (srcs (A ++ rs :: B)) → Heap (ltS c) ([], 0) l'.length 0 l' → ∃ M, mergeF c f l' (out ++ [r]) = out ++ M ∧ M.Perm (A ++ (r :: rs) :: B).flatten ∧ Srt c M ∧ ∀ k, P k → cls c k M = cls c k (A ++ (r :: rs) :: B).flatten := by
        intro l' hl' hh'
        obtain ⟨M, m1, m2, m3, m4⟩ := ih l' (A ++ rs :: B) (out ++ [r]) hf' hl' hh' hr'
        refine ⟨r :: M, by rw [m1]; simp, ?_, List.pairwise_cons.2 ⟨fun y hy => hle y (m2.mem_iff.1 hy), m3⟩, fun k hk => ?_⟩
        · refine (m2.cons r).trans ?_
          simp only [List.flatten_append, List.flatten_cons]
          exact List.perm_middle.symm
        · have := m4 k hk
          simp only [List.flatten_append, List.flatten_cons, List.cons_append] at this ⊢
          rw [cls_append] at this ⊢
          by_cases h0 : c r k = 0
          · rw [hnil k hk h0, List.nil_append] at this ⊢
            rw [cls, List.filter_cons_of_pos (by simp [h0]), cls, List.filter_cons_of_pos (by simp [h0])]
            exact congrArg (r :: ·) this
          · rw [cls, List.filter_cons_of_neg (by simp [h0])]
            rw [show cls c k (r :: (rs ++ B.flatten)) = cls c k (rs ++ B.flatten) from by rw [cls, List.filter_cons_of_neg (by simp [h0])]; rfl]
            exact this
      have hbut : ∀ y, HeapBut (ltS c) ([], 0) (t.length + 1) 0 0 (y :: t) := by
        intro y p hp0 hpn q hq hqn
        have := hh p hp0 q hq hqn
        obtain ⟨p', rfl⟩ : ∃ p', p = p' + 1 := ⟨p - 1, by omega⟩
        obtain ⟨q', rfl⟩ : ∃ q', q = q' + 1 := ⟨q - 1, by omega⟩
        simpa using this
      rw [mergeF]
      by_cases hrn : rs = []
      · rw [if_pos hrn]
        subst hrn
        have hs' : t.Perm (srcs (A ++ [] :: B)) := by rw [srcs_split, if_pos rfl, List.nil_append]; exact ht
        rcases Nat.eq_zero_or_pos t.length with h0 | h0
        · obtain rfl : t = [] := List.eq_nil_of_length_eq_zero h0
          exact fin _ (by simpa [popF] using hs') (fun p _ c hc hcn => by simp [popF] at hcn)
        · have hsl : (sw ([], 0) (([], i) :: t) 0 t.length).length = t.length + 1 := by rw [sw_length]; rfl
          have hsg := fun m => sw_get ([], 0) (([], i) :: t) 0 t.length m (by simp) (by simp)
          have hsp := sw_perm ([], 0) (([], i) :: t) 0 t.length (by simp) (by simp)
          have hqd : ∀ m, m < t.length → ((sw ([], 0) (([], i) :: t) 0 t.length).getD m ([], 0)).1 ≠ [] ∧ ∀ r ∈ ((sw ([], 0) (([], i) :: t) 0 t.length).getD m ([], 0)).1, P r := by
            intro m hm
            rw [hsg m, if_neg (by omega)]
            by_cases hm0 : m = 0
            · rw [if_pos hm0]
              obtain ⟨n', hn'⟩ : ∃ n', t.length = n' + 1 := ⟨t.length - 1, by omega⟩
              rw [hn', List.getD_cons_succ, List.getD_eq_getElem?_getD, List.getElem?_eq_getElem (by omega)]
              exact hQ _ (List.mem_cons_of_mem _ (List.getElem_mem _))
            · rw [if_neg hm0]
              obtain ⟨m', rfl⟩ : ∃ m', m = m' + 1 := ⟨m - 1, by omega⟩
              rw [List.getD_cons_succ, List.getD_eq_getElem?_getD, List.getElem?_eq_getElem (by omega)]
              exact hQ _ (List.mem_cons_of_mem _ (List.getElem_mem _))
          obtain ⟨q1, q2, q3⟩ := downF_ok (ltS_ok h) ([], 0) t.length 0 (t.length + 1) 0 (sw ([], 0) (([], i) :: t) 0 t.length) (by omega) hqd (Nat.le_refl _) (by omega) h0 (fun p hp hpn q hq hqn => by
            have := hbut ([], i) p hp hpn q hq (by omega)
            rw [hsg q, hsg p, if_neg (by omega), if_neg (by omega), if_neg (by omega), if_neg (by omega)]
            exact this) (fun p hp hpc => by omega)
          have hpl : popF c (([], i) :: t) = (downF (ltS c) ([], 0) t.length (t.length + 1) 0 (sw ([], 0) (([], i) :: t) 0 t.length)).take t.length := rfl
          have hlast : (downF (ltS c) ([], 0) t.length (t.length + 1) 0 (sw ([], 0) (([], i) :: t) 0 t.length)).getD t.length ([], 0) = ([], i) := by
            rw [q3 _ (Nat.le_refl _), hsg t.length, if_pos rfl]; rfl
          rw [hpl]
          refine fin _ ((take_perm ([], 0) (by rw [downF_length, hsl]) hlast (q1.trans hsp)).trans hs') ?_
          rw [List.length_take, downF_length, hsl, Nat.min_eq_left (by omega)]
          intro p hp q hq hqn
          have := q2 p hp q hq hqn
          simp only [List.getD_eq_getElem?_getD, List.getElem?_take] at this ⊢
          rw [if_pos hqn, if_pos (by omega)]
          exact this
      · rw [if_neg hrn]
        have hp2 : ((rs, i) :: t).Perm (srcs (A ++ rs :: B)) := by
          rw [srcs_split, if_neg hrn, hA]
          have := List.Perm.cons (rs, i) ht
          rw [hA] at this
          exact this.trans List.perm_middle.symm
        have hQ2 : ∀ x ∈ (rs, i) :: t, x.1 ≠ [] ∧ ∀ r ∈ x.1, P r := by
          intro x hx
          rcases List.mem_cons.1 hx with e | e
          · subst e; exact ⟨hrn, fun y hy => hrs.2 y (List.mem_cons_of_mem _ hy)⟩
          · exact hQ x (List.mem_cons_of_mem _ e)
        obtain ⟨q1, q2, _⟩ := downF_ok (ltS_ok h) ([], 0) (t.length + 1) 0 (t.length + 2) 0 ((rs, i) :: t) (by simp) (getD_all rfl hQ2) (Nat.le_refl _) (by omega) (by omega) (hbut _) (fun p hp hpc => by omega)
        refine fin _ (q1.trans hp2) ?_
        rw [show (fixF c ((rs, i) :: t)).length = t.length + 1 from by rw [fixF, downF_length]; rfl]
        exact q2
end P2
namespace P3
open P1 P2
variable {α : Type}
def foldStep (c : α → α → Int) (one : α → α → α) (out : List α) (r : α) : List α := match out.getLast? with
  | some o => if c o r = 0 then out.dropLast ++ [one o r] else out ++ [r]
  | none => [r]
def foldL (c : α → α → Int) (one : α → α → α) (l : List α) : List α := l.foldl (foldStep c one) []
theorem foldL_snoc (c : α → α → Int) (one : α → α → α) (l : List α) (r : α) : foldL c one (l ++ [r]) = foldStep c one (foldL c one l) r := by simp [foldL]
theorem foldStep_nil (c : α → α → Int) (one : α → α → α) (r : α) : foldStep c one [] r = [r] := rfl
theorem foldStep_snoc (c : α → α → Int) (one : α → α → α) (m : List α) (o r : α) : foldStep c one (m ++ [o]) r = if c o r = 0 then m ++ [one o r] else (m ++ [o]) ++ [r] := by simp [foldStep]
theorem snoc_cases (l : List α) : l = [] ∨ ∃ m x, l = m ++ [x] := by
  rcases List.eq_nil_or_concat l with h | ⟨m, x, h⟩
  · exact .inl h
  · exact .inr ⟨m, x, by simpa using h⟩
theorem snoc_rec {M : List α → Prop} (h0 : M []) (hs : ∀ l x, M l → M (l ++ [x])) (l : List α) : M l := by
  have h : ∀ r : List α, M r.reverse := by
    intro r
    induction r with
    | nil => exact h0
    | cons x r ih => rw [List.reverse_cons]; exact hs _ _ ih
  have := h l.reverse
  rwa [List.reverse_reverse] at this
/-- Both of one key: the one made of them is of that key. -/
def OneOk (c : α → α → Int) (P : α → Prop) (one : α → α → α) : Prop := ∀ a b, P a → P b → c a b = 0 → P (one a b) ∧ c (one a b) a = 0
abbrev Strict (c : α → α → Int) (l : List α) : Prop := l.Pairwise fun a b => c a b < 0
theorem Ord.lt_of {c : α → α → Int} {P : α → Prop} (h : Ord c P) {a b d : α} (ha : P a) (hb : P b) (hd : P d) (e1 : c a b < 0) (e2 : c b d ≤ 0) : c a d < 0 := by
  have h1 := h.trans a b d ha hb hd (by omega) e2
  by_cases e : c a d = 0
  · have h2 := h.trans b d a hb hd ha e2 (by have := h.zero ha hd e; omega)
    have h3 := h.ge ha hb (by have := h.le hb ha h2; omega)
    have h4 := (h.sym a b ha hb).1 e1
    omega
  · omega
theorem foldL_ok {c : α → α → Int} {P : α → Prop} (h : Ord c P) {one : α → α → α} (h1 : OneOk c P one) (l : List α) : (∀ a ∈ l, P a) → Srt c l →
    Strict c (foldL c one l) ∧ (∀ a ∈ foldL c one l, P a ∧ ∃ b ∈ l, c a b = 0) ∧ (foldL c one l).length ≤ l.length ∧ (foldL c one l = [] ↔ l = []) ∧
    (∀ o, (foldL c one l).getLast? = some o → ∀ b ∈ l, c b o ≤ 0) := by
  refine snoc_rec (M := fun l => (∀ a ∈ l, P a) → Srt c l →
    Strict c (foldL c one l) ∧ (∀ a ∈ foldL c one l, P a ∧ ∃ b ∈ l, c a b = 0) ∧ (foldL c one l).length ≤ l.length ∧ (foldL c one l = [] ↔ l = []) ∧
    (∀ o, (foldL c one l).getLast? = some o → ∀ b ∈ l, c b o ≤ 0)) ?_ ?_ l
  · intro _ _; exact ⟨.nil, (fun a ha => by cases ha), Nat.le_refl _, by simp [foldL], fun o ho => by simp [foldL] at ho⟩
  · intro l r ih hP hs
    have hPl : ∀ a ∈ l, P a := fun a ha => hP a (List.mem_append_left _ ha)
    have Pr := hP r (by simp)
    have hs2 := List.pairwise_append.1 hs
    have hlr : ∀ a ∈ l, c a r ≤ 0 := fun a ha => hs2.2.2 a ha r (by simp)
    obtain ⟨i1, i2, i3, i4, i5⟩ := ih hPl hs2.1
    rw [foldL_snoc]
    rcases snoc_cases (foldL c one l) with e | ⟨m, o, e⟩
    · rw [e, foldStep_nil]
      have hl := i4.1 e
      subst hl
      exact ⟨List.pairwise_singleton _ _, (fun a ha => by simp at ha; subst ha; exact ⟨Pr, a, by simp, h.refl Pr⟩), by simp, by simp, fun o ho b hb => by simp at ho hb; subst ho hb; rw [h.refl Pr]; omega⟩
    · rw [e] at i1 i2 i3 i4 i5 ⊢
      rw [foldStep_snoc]
      have i1' := List.pairwise_append.1 i1
      obtain ⟨Po, y, hy, hoy⟩ := i2 o (by simp)
      have Py := hPl y hy
      have hor : c o r ≤ 0 := h.trans o y r Po Py Pr (by omega) (hlr y hy)
      by_cases h0 : c o r = 0
      · rw [if_pos h0]
        obtain ⟨P1, c1⟩ := h1 o r Po Pr h0
        have c2 : c (one o r) r = 0 := h.eqv P1 Pr Po c1 (h.zero Po Pr h0)
        refine ⟨List.pairwise_append.2 ⟨i1'.1, List.pairwise_singleton _ _, fun a ha b hb => ?_⟩, fun a ha => ?_, ?_, ?_, fun o' ho' b hb => ?_⟩
        · simp at hb; subst hb
          have := h.zero P1 Po c1
          exact Ord.lt_of h (i2 a (by simp [ha])).1 Po P1 (i1'.2.2 a ha o (by simp)) (by omega)
        · rcases List.mem_append.1 ha with q | q
          · obtain ⟨q1, b, q2, q3⟩ := i2 a (by simp [q])
            exact ⟨q1, b, by simp [q2], q3⟩
          · simp at q; subst q
            exact ⟨P1, r, by simp, c2⟩
        · simp at i3 ⊢; omega
        · simp
        · simp at ho'; subst ho'
          rcases List.mem_append.1 hb with q | q
          · have := i5 o (by simp) b q
            exact h.trans b o _ (hPl b q) Po P1 this (by have := h.zero P1 Po c1; omega)
          · simp at q; subst q
            have := h.zero P1 Pr c2; omega
      · rw [if_neg h0]
        refine ⟨List.pairwise_append.2 ⟨i1, List.pairwise_singleton _ _, fun a ha b hb => ?_⟩, fun a ha => ?_, by simp at i3 ⊢; omega, by simp, fun o' ho' b hb => ?_⟩
        · simp at hb; subst hb
          rcases List.mem_append.1 ha with q | q
          · exact Ord.lt_of h (i2 a (by simp [q])).1 Po Pr (i1'.2.2 a q o (by simp)) (by omega)
          · simp at q; subst q; omega
        · rcases List.mem_append.1 ha with q | q
          · obtain ⟨q1, b, q2, q3⟩ := i2 a q
            exact ⟨q1, b, by simp [q2], q3⟩
          · simp at q; subst q
            exact ⟨Pr, a, by simp, h.refl Pr⟩
        · simp at ho'; subst ho'
          rcases List.mem_append.1 hb with q | q
          · exact hlr b q
          · simp at q; subst q; rw [h.refl Pr]; omega
/-- The last one of each key. -/
theorem foldL_last {c : α → α → Int} {P : α → Prop} (h : Ord c P) (l : List α) : (∀ a ∈ l, P a) → Srt c l → ∀ k, P k → cls c k (foldL c (fun _ b => b) l) = (cls c k l).getLast?.toList := by
  have h1 : OneOk c P (fun _ b => b) := fun a b ha hb e => ⟨hb, h.zero ha hb e⟩
  refine snoc_rec (M := fun l => (∀ a ∈ l, P a) → Srt c l → ∀ k, P k → cls c k (foldL c (fun _ b => b) l) = (cls c k l).getLast?.toList) ?_ ?_ l
  · intro _ _ k _; rfl
  · intro l r ih hP hs k hk
    have hPl : ∀ a ∈ l, P a := fun a ha => hP a (List.mem_append_left _ ha)
    have Pr := hP r (by simp)
    have hs2 := List.pairwise_append.1 hs
    obtain ⟨i1, i2, i3, i4, i5⟩ := foldL_ok h h1 l hPl hs2.1
    have ihk := ih hPl hs2.1 k hk
    rw [foldL_snoc, cls_append]
    have hone : cls c k [r] = if c r k = 0 then [r] else [] := by
      by_cases e : c r k = 0 <;> simp [cls, e]
    rcases snoc_cases (foldL c (fun _ b => b) l) with e | ⟨m, o, e⟩
    · rw [e, foldStep_nil]
      have hl := i4.1 e
      subst hl
      rw [hone]; split <;> simp [cls]
    · rw [e] at i1 i2 ihk ⊢
      rw [foldStep_snoc]
      have i1' := List.pairwise_append.1 i1
      obtain ⟨Po, y, hy, hoy⟩ := i2 o (by simp)
      have Py := hPl y hy
      have hor : c o r ≤ 0 := h.trans o y r Po Py Pr (by omega) (hs2.2.2 y hy r (by simp))
      by_cases h0 : c o r = 0
      · rw [if_pos h0, cls_append, hone]
        by_cases hk0 : c r k = 0
        · rw [if_pos hk0, List.getLast?_append]
          have hm : cls c k m = [] := cls_nil fun x hx hxk => by
            have Px := (i2 x (by simp [hx])).1
            have hxo := i1'.2.2 x hx o (by simp)
            have := h.eqv Px Pr hk hxk hk0
            have := Ord.lt_of h Px Po Pr hxo (by omega)
            omega
          rw [hm]; simp
        · rw [if_neg hk0, List.append_nil, List.append_nil, ← ihk, cls_append]
          have : cls c k [o] = [] := cls_nil fun x hx hxk => by
            simp at hx; subst hx
            exact hk0 (h.eqv Pr hk Po (h.zero Po Pr h0) (h.zero Po hk hxk))
          rw [this, List.append_nil]
      · rw [if_neg h0, cls_append, hone]
        by_cases hk0 : c r k = 0
        · rw [if_pos hk0]
          have hm : cls c k (m ++ [o]) = [] := cls_nil fun x hx hxk => by
            have Px := (i2 x hx).1
            have hxr : c x r < 0 := by
              rcases List.mem_append.1 hx with q | q
              · exact Ord.lt_of h Px Po Pr (i1'.2.2 x q o (by simp)) (by omega)
              · simp at q; subst q; omega
            have := h.eqv Px Pr hk hxk hk0
            omega
          rw [hm, List.getLast?_append]; simp
        · rw [if_neg hk0, List.append_nil, List.append_nil]; exact ihk
end P3
namespace P4
open Go Go.RowKit
open KB K1 K2 K3 K5 K6 K8 K9 K12 K14 K15 K16 K17 P2 P3 Num
set_option linter.unusedVariables false
set_option linter.unusedSimpArgs false
theorem cmpI_ord : Ord cmpI (fun _ => True) where
  sym := by intro a b _ _; unfold cmpI; split <;> split <;> (try split) <;> (try split) <;> omega
  trans := by intro a b d _ _ _ h1 h2; unfold cmpI at *; split at h1 <;> split at h2 <;> (try split at h1) <;> (try split at h2) <;> (try split) <;> (try split) <;> omega
theorem cb_sym : ∀ a b : List UInt8, (Lib.compareBytes a b < 0 ↔ 0 < Lib.compareBytes b a)
  | [], [] => by simp [Lib.compareBytes]
  | [], _ :: _ => by simp [Lib.compareBytes]
  | _ :: _, [] => by simp [Lib.compareBytes]
  | a :: l1, b :: l2 => by
    have ih := cb_sym l1 l2
    rw [Lib.compareBytes, Lib.compareBytes]
    simp only [UInt8.lt_iff_toNat_lt]
    rcases Nat.lt_trichotomy a.toNat b.toNat with h | h | h
    · rw [if_pos h, if_neg (by omega), if_pos h]; decide
    · rw [if_neg (by omega), if_neg (by omega), if_neg (by omega), if_neg (by omega)]; exact ih
    · rw [if_neg (by omega), if_pos h, if_pos h]; decide
theorem cb_trans : ∀ a b d : List UInt8, Lib.compareBytes a b ≤ 0 → Lib.compareBytes b d ≤ 0 → Lib.compareBytes a d ≤ 0
  | [], _, [] => by simp [Lib.compareBytes]
  | [], _, _ :: _ => by simp [Lib.compareBytes]
  | _ :: _, [], _ => by simp [Lib.compareBytes]
  | _ :: _, _ :: _, [] => by simp [Lib.compareBytes]
  | a :: l1, b :: l2, d :: l3 => by
    have ih := cb_trans l1 l2 l3
    rw [Lib.compareBytes, Lib.compareBytes, Lib.compareBytes]
    simp only [UInt8.lt_iff_toNat_lt]
    intro h1 h2
    rcases Nat.lt_trichotomy a.toNat b.toNat with h | h | h
    · rcases Nat.lt_trichotomy b.toNat d.toNat with g | g | g
      · rw [if_pos (by omega)]; decide
      · rw [if_pos (by omega)]; decide
      · rw [if_neg (by omega), if_pos g] at h2; exact absurd h2 (by decide)
    · rw [if_neg (by omega), if_neg (by omega)] at h1
      rcases Nat.lt_trichotomy b.toNat d.toNat with g | g | g
      · rw [if_pos (by omega)]; decide
      · rw [if_neg (by omega), if_neg (by omega)] at h2 ⊢; exact ih h1 h2
      · rw [if_neg (by omega), if_pos g] at h2; exact absurd h2 (by decide)
    · rw [if_neg (by omega), if_pos h] at h1; exact absurd h1 (by decide)
theorem cmpV_ord (t : Int) : Ord (cmpV t) (fun _ => True) where
  sym := by
    intro a b _ _
    unfold cmpV
    split
    · exact cb_sym _ _
    · split
      · exact cmpI_ord.sym _ _ trivial trivial
      · exact cmpI_ord.sym _ _ trivial trivial
  trans := by
    intro a b d _ _ _
    unfold cmpV
    split
    · exact cb_trans _ _ _
    · split
      · exact cmpI_ord.trans _ _ _ trivial trivial trivial
      · exact cmpI_ord.trans _ _ _ trivial trivial trivial
theorem cmpL_sym : ∀ (ts : List Int) (a b : Row), ts.length ≤ a.length → ts.length ≤ b.length → (cmpL ts a b < 0 ↔ 0 < cmpL ts b a)
  | [], _, _, _, _ => by simp [cmpL]
  | t :: ts, [], _, h, _ => by simp at h
  | t :: ts, _ :: _, [], _, h => by simp at h
  | t :: ts, x :: a, y :: b, h1, h2 => by
    have ih := cmpL_sym ts a b (by simpa using h1) (by simpa using h2)
    have hv := (cmpV_ord t).sym x y trivial trivial
    have hz : cmpV t x y = 0 ↔ cmpV t y x = 0 := ⟨(cmpV_ord t).zero trivial trivial, (cmpV_ord t).zero trivial trivial⟩
    rw [cmpL, cmpL]
    by_cases h : cmpV t x y = 0
    · rw [if_pos h, if_pos (hz.1 h)]; exact ih
    · rw [if_neg h, if_neg (fun e => h (hz.2 e))]; exact hv
theorem cmpL_trans : ∀ (ts : List Int) (a b d : Row), ts.length ≤ a.length → ts.length ≤ b.length → ts.length ≤ d.length → cmpL ts a b ≤ 0 → cmpL ts b d ≤ 0 → cmpL ts a d ≤ 0
  | [], _, _, _, _, _, _, _, _ => by simp [cmpL]
  | t :: ts, [], _, _, h, _, _, _, _ => by simp at h
  | t :: ts, _ :: _, [], _, _, h, _, _, _ => by simp at h
  | t :: ts, _ :: _, _ :: _, [], _, _, h, _, _ => by simp at h
  | t :: ts, x :: a, y :: b, z :: d, h1, h2, h3, e1, e2 => by
    have ih := cmpL_trans ts a b d (by simpa using h1) (by simpa using h2) (by simpa using h3)
    have O := cmpV_ord t
    rw [cmpL] at e1 e2 ⊢
    have s1 : cmpV t x y ≤ 0 := by split at e1 <;> omega
    have s2 : cmpV t y z ≤ 0 := by split at e2 <;> omega
    have s3 := O.trans x y z trivial trivial trivial s1 s2
    by_cases h : cmpV t x z = 0
    · rw [if_pos h]
      have g1 := O.trans y z x trivial trivial trivial s2 (by have := O.zero trivial trivial h; omega)
      have g2 := O.trans z x y trivial trivial trivial (by have := O.zero trivial trivial h; omega) s1
      have g3 := O.le trivial trivial g1
      have g4 := O.le trivial trivial g2
      rw [if_pos (by omega)] at e1 e2
      exact ih e1 e2
    · rw [if_neg h]; exact s3
theorem cmpS_ord (s : Sch) : Ord (cmpS s) (RowOk s) where
  sym := fun a b ha hb => cmpL_sym _ a b ha.key.1 hb.key.1
  trans := fun a b d ha hb hd => cmpL_trans _ a b d ha.key.1 hb.key.1 hd.key.1
/-- In order, pair by pair: in order altogether. -/
theorem inOrder_srt {s : Sch} {l : List Row} (hl : ∀ r ∈ l, RowOk s r) : InOrder (cmpS s) l ↔ Srt (cmpS s) l := by
  constructor
  · induction l with
    | nil => intro _; exact .nil
    | cons a l ih =>
      intro h
      have hl' : ∀ r ∈ l, RowOk s r := fun r hr => hl r (List.mem_cons_of_mem _ hr)
      have hs := ih hl' (fun i hi => by have := h (i + 1) (by simp; omega); simpa using this)
      refine List.pairwise_cons.2 ⟨fun b hb => ?_, hs⟩
      cases l with
      | nil => cases hb
      | cons b' l =>
        have h0 := h 0 (by simp)
        have oa := hl a (List.mem_cons_self ..)
        have ob' := hl' b' (List.mem_cons_self ..)
        have h1 : cmpS s a b' ≤ 0 := (cmpS_ord s).ge ob' oa (by simpa using h0)
        rcases List.mem_cons.1 hb with e | e
        · rw [e]; exact h1
        · exact (cmpS_ord s).trans a b' b oa ob' (hl' b hb) h1 ((List.pairwise_cons.1 hs).1 b e)
  · intro h i hi
    have h1 := List.pairwise_iff_getElem.1 h i (i + 1) (by omega) hi (by omega)
    exact (cmpS_ord s).le (hl _ (List.getElem_mem _)) (hl _ (List.getElem_mem _)) h1
theorem granB_length (ts : List Int) : ∀ C : List (List Row), (∀ g ∈ C, 1 ≤ g.length ∧ g.length ≤ 100000) → (granB ts C).length ≤ ts.length * (34 * C.flatten.length) := by
  intro C
  induction C with
  | nil => intro _; simp [granB]
  | cons g C ih =>
    intro h
    obtain ⟨h1, h2⟩ := h g (List.mem_cons_self ..)
    have h3 := ih (fun g hg => h g (List.mem_cons_of_mem _ hg))
    have h4 := colsB_length g h2 ts 0
    rw [granB_cons, List.length_append, List.flatten_cons, List.length_append]
    have h5 : ts.length * (8 * g.length + 26) ≤ ts.length * (34 * g.length) := Nat.mul_le_mul_left _ (by omega)
    have h6 : ts.length * (34 * (g.length + C.flatten.length)) = ts.length * (34 * g.length) + ts.length * (34 * C.flatten.length) := by rw [Nat.mul_add, Nat.mul_add]
    omega
theorem chunks_flat (g : Nat) (hg : 1 ≤ g) (n : Nat) : ∀ l : List Row, l.length ≤ n → (chunks g l).flatten = l := by
  induction n with
  | zero => intro l h; obtain rfl : l = [] := List.eq_nil_of_length_eq_zero (by omega); simp [chunks_nil]
  | succ n ih =>
    intro l h
    by_cases hl : l = []
    · subst hl; simp [chunks_nil]
    · have hp : 0 < l.length := List.length_pos_iff.2 hl
      rw [chunks_step g hg hl, List.flatten_cons, ih (l.drop g) (by rw [List.length_drop]; omega), List.take_append_drop]
/-- How long a part is. -/
theorem partB_length (s : Sch) (hs : s.Ok) (l : List Row) (hl : l.length ≤ 2000) : (partB s l).length ≤ s.types.length * (42 * l.length + 26) + 8 * l.length + 130 := by
  have hg := chunks_flat s.grain hs.g1 l.length l (Nat.le_refl _)
  have hc := chunks_pos s.grain hs.g1 l.length l (Nat.le_refl _)
  have hc2 := chunks_le s.grain hs.g1 l.length l (Nat.le_refl _)
  have hcl := chunks_length s.grain hs.g1 l.length l (Nat.le_refl _)
  have h1 := granB_length s.types (chunks s.grain l) (fun g hg' => ⟨(hc g hg').1, by have := hc2 g hg'; omega⟩)
  rw [hg] at h1
  have hpl : (putSch s).length ≤ 68 := by rw [putSch, putN_length _ (nums_small hs), nums_length]; have := hs.n2; omega
  have hhl : (head s).length ≤ 82 := by
    have h1 := pv_le10 (putSch s).length (by omega)
    rw [head, frame_length]; omega
  have hml : (marks s l).length ≤ l.length := by rw [marks, List.length_map]; exact hcl
  have h2 := colsB_length (marks s l) (by omega) (s.types.take s.keys) 0
  have h3 : (s.types.take s.keys).length * (8 * (marks s l).length + 26) ≤ s.types.length * (8 * l.length + 26) := Nat.mul_le_mul (by rw [List.length_take]; omega) (by omega)
  have h4 := putB_length 2 (places (head s).length s.types (chunks s.grain l)) (by rw [places_length]; omega)
  rw [places_length] at h4
  have h5 : s.types.length * (42 * l.length + 26) = s.types.length * (34 * l.length) + s.types.length * (8 * l.length + 26) := by rw [← Nat.mul_add]; congr 1; omega
  have h8 : ∀ x, (le8 x).length = 8 := fun _ => rfl
  rw [partB, body, tailB]
  simp only [List.length_append, h8]
  omega
end P4
namespace K62
open Go Go.RowKit
open KB K1 K2 K3 K5 P1 P2
set_option linter.unusedVariables false
set_option linter.unusedSimpArgs false
set_option maxHeartbeats 2000000
set_option maxRecDepth 100000
abbrev BP (a : Nat) : Value := .pointer (some ⟨a, 0, none⟩)
abbrev SrcM := Src Row
/-- Rows that are left of a part, and its place. -/
def rdSrc : Rd SrcM where
  sz := 2
  C := fun F w cs x => ∃ A c, cs = [.slice A x.1.length c, .int .i64 x.2] ∧ rdRow.Sl F w A c x.1
  len := by rintro _ _ _ _ ⟨A, c, rfl, _⟩; rfl
  keep := by rintro _ _ _ _ _ k ⟨A, c, rfl, h⟩; exact ⟨A, c, rfl, h.keep k⟩
  narrow := by rintro _ _ _ _ _ k ⟨A, c, rfl, h⟩; exact ⟨A, c, rfl, h.narrow (by decide) k⟩
  one := by rintro _ _ _ _ ⟨A, c, rfl, _⟩ u hu; simp at hu; rcases hu with rfl | rfl <;> rfl
abbrev qCells (Ax : Option Addr) (cx : Nat) (s : Sch) (lg n cap : Nat) : Array Value := #[.slice Ax s.types.length cx, .int .i64 s.keys, .int .i64 s.mode, .int .i64 s.grain, .slice (some ⟨lg, 0, none⟩) n cap]
/-- A heap of sources. -/
structure HeapAt (F : Nat → Prop) (w : World) (qg lg cap : Nat) (Ax : Option Addr) (cx : Nat) (s : Sch) (l : List SrcM) : Prop where
  blk : w.heap[qg]? = some (.cells (qCells Ax cx s lg l.length cap) 290 (0, 0))
  own : rdSrc.Own (fun k => F k ∨ k = qg) 0 292 w (.slice (some ⟨lg, 0, none⟩) l.length cap) l
  ne : ¬ qg = lg
  cp : l.length ≤ cap
  sch : SchAt (fun k => (F k ∨ k = qg) ∨ k = lg) w Ax cx s
theorem HeapAt.ext {F : Nat → Prop} {w w' : World} {qg lg cap : Nat} {Ax : Option Addr} {cx : Nat} {s : Sch} {l : List SrcM} (h : HeapAt F w qg lg cap Ax cx s l) (k : Ext w w') : HeapAt F w' qg lg cap Ax cx s l :=
  ⟨k.blk h.blk, h.own.ext k, h.ne, h.cp, Rd.Sl.ext h.sch k⟩
theorem HeapAt.src {F : Nat → Prop} {w : World} {qg lg cap : Nat} {Ax : Option Addr} {cx : Nat} {s : Sch} {l : List SrcM} (h : HeapAt F w qg lg cap Ax cx s l) {i : Nat} (hi : i < l.length) :
    ∃ A c, w.cell? ⟨lg, i * 2, none⟩ = some (.slice A l[i].1.length c) ∧ w.cell? ⟨lg, i * 2 + 1, none⟩ = some (.int .i64 l[i].2) ∧ rdRow.Sl (fun k => (F k ∨ k = qg) ∨ k = lg) w A c l[i].1 := by
  obtain ⟨cs, ⟨A, c, rfl, hs⟩, h1, h2⟩ := h.own.cellj hi
  refine ⟨A, c, h1 0 _ rfl, h1 1 _ rfl, hs.narrow (by decide) (fun k _ q => q.elim .inl (fun e => .inr (by rw [e]; rfl)))⟩
theorem row_get {F : Nat → Prop} {w : World} {A : Option Addr} {c : Nat} {l : List Row} (h : rdRow.Sl F w A c l) {k : Nat} (hk : k < l.length) : ∃ b o A2 c2, A = some ⟨b, o, none⟩ ∧ w.cell? ⟨b, o + k, none⟩ = some (.slice A2 l[k].length c2) ∧ rdVal.Sl F w A2 c2 l[k] := sl_get h hk
theorem lenC (qg : Nat) (Ax : Option Addr) (cx : Nat) (s : Sch) (v : Value) (A : Option Addr) (n cap : Nat) (w : World) (h : w.heap[qg]? = some (.cells #[.slice Ax s.types.length cx, .int .i64 s.keys, .int .i64 s.mode, .int .i64 s.grain, .slice A n cap] 290 (0, 0))) :
    Calls Tryz.prog 212 #[BP qg] w fun e w' => e = .returned (.int .i64 n) ∧ w' = w := by
  have p4 := blk_cell h 4
  go_enter Tryz.func212, Tryz.ntmps212
  go_wp2
  go_ret
  exact ⟨rfl, rfl⟩
/-- The first of two numbers that is not zero. -/
def orI (a b : Int) : Int := if a = 0 then b else a
theorem or2C (a b : Int) (g c : Nat) (w : World) (h0 : w.cell? ⟨g, 0, none⟩ = some (.int .i64 a)) (h1 : w.cell? ⟨g, 1, none⟩ = some (.int .i64 b)) :
    Calls Tryz.prog 440 #[.slice (some ⟨g, 0, none⟩) 2 c] w fun e w' => e = .returned (.int .i64 (orI a b)) ∧ w' = w := by
  unfold orI
  go_enter Tryz.func440, Tryz.ntmps440
  go_wp2_with (fail)
  refine wp_loop_rounds 3 ?_
  rw [rounds_succ]
  by_cases ha : a = 0
  · subst ha
    go_wp2_with (fail)
    rw [rounds_succ]
    by_cases hb : b = 0
    · subst hb
      go_wp2_with (fail)
      rw [rounds_succ]
      go_wp2
      go_ret
      exact ⟨rfl, rfl⟩
    · have d : decide (b = 0) = false := decide_eq_false hb
      go_wp2
      go_ret
      exact ⟨by simp, rfl⟩
  · have d : decide (a = 0) = false := decide_eq_false ha
    go_wp2
    go_ret
    exact ⟨by simp [ha], rfl⟩
theorem elSrc : El Tryz.prog 288 292 rdSrc.sz 32 := El.mk (z := .agg #[.slice none 0 0, .int .i64 0]) Tryz.underlying288 (by kernel_rfl) rfl (by decide)
/-- What a source may be. -/
def SrcOk (s : Sch) (x : SrcM) : Prop := x.1 ≠ [] ∧ ∀ r ∈ x.1, RowOk s r
theorem lessC (F : Nat → Prop) (qg lg cap : Nat) (Ax : Option Addr) (cx : Nat) (s : Sch) (hs : s.Ok) (l : List SrcM) (w : World) (h : HeapAt F w qg lg cap Ax cx s l) (i k : Nat) (hi : i < l.length) (hk : k < l.length) (oi : SrcOk s l[i]) (ok : SrcOk s l[k]) :
    Calls Tryz.prog 437 #[BP qg, .int .i64 i, .int .i64 k] w fun e w' => e = .returned (.bool (ltS (cmpS s) (l.getD i ([], 0)) (l.getD k ([], 0)))) ∧ Ext w w' := by
  obtain ⟨A1, c1, a0, a1, a2⟩ := h.src hi
  obtain ⟨A2, c2, b0, b1, b2⟩ := h.src hk
  have e1 : l.getD i ([], 0) = l[i] := by simp [List.getD_eq_getElem?_getD, hi]
  have e2 : l.getD k ([], 0) = l[k] := by simp [List.getD_eq_getElem?_getD, hk]
  rw [e1, e2]
  clear e1 e2
  obtain ⟨n1, n2⟩ := oi
  obtain ⟨m1, m2⟩ := ok
  generalize l[i] = x at *
  generalize l[k] = y at *
  obtain ⟨_ | ⟨r1, t1⟩, j1⟩ := x
  · exact absurd rfl n1
  obtain ⟨_ | ⟨r2, t2⟩, j2⟩ := y
  · exact absurd rfl m1
  obtain ⟨g1, o1, A3, c3, rfl, f0, f1⟩ := row_get a2 (k := 0) (by simp)
  obtain ⟨g2, o2, A4, c4, rfl, q0, q1⟩ := row_get b2 (k := 0) (by simp)
  simp only [List.getElem_cons_zero, List.length_cons] at f0 f1 q0 q1 a0 b0 a1 b1 n2 m2
  rw [Nat.add_zero] at f0 q0
  have ho1 := n2 r1 (List.mem_cons_self ..)
  have ho2 := m2 r2 (List.mem_cons_self ..)
  clear a2 b2 n1 n2 m1 m2
  have hlt : ltS (cmpS s) (r1 :: t1, j1) (r2 :: t2, j2) = decide (orI (cmpS s r1 r2) (cmpI (j1 : Int) j2) < 0) := by
    unfold ltS cmpI orI
    by_cases e : cmpS s r1 r2 = 0
    · simp only [e, if_true]
      by_cases h1 : j1 < j2
      · simp [h1, Int.ofNat_lt.2 h1]
      · have h2 : ¬ ((j1 : Int) < j2) := by omega
        simp only [h1, h2, if_false, decide_false]
        split <;> simp
    · simp [e]
  rw [hlt]
  clear hlt
  have d0 : (0 : Int) ≤ i := by omega
  have d1 : (i : Int) < l.length := by omega
  have d2 : (0 : Int) ≤ k := by omega
  have d3 : (k : Int) < l.length := by omega
  have hsch := h.sch
  have hB := h.blk
  (have p0 := blk_cell (hB) 0; have p1 := blk_cell (hB) 1; have p2 := blk_cell (hB) 2; have p3 := blk_cell (hB) 3; have p4 := blk_cell (hB) 4)
  have hq : qg < w.heap.size := blk_lt hB
  have hlg : lg < w.heap.size := (h.own.ge lg rfl).2
  clear h
  go_enter Tryz.func437, Tryz.ntmps437
  go_wp2_with (fail)
  go_cut [7, 8] (fun s7 s8 wx => ∃ y1 y2, s7 = BP y1 ∧ s8 = BP y2 ∧ Ext w wx ∧ wx.cell? ⟨y1, 0, none⟩ = some (.slice (some ⟨g1, o1, none⟩) (t1.length + 1) c1) ∧ wx.cell? ⟨y1, 1, none⟩ = some (.int .i64 j1) ∧ wx.cell? ⟨y2, 0, none⟩ = some (.slice (some ⟨g2, o2, none⟩) (t2.length + 1) c2) ∧ wx.cell? ⟨y2, 1, none⟩ = some (.int .i64 j2))
  case first =>
    go_region
    all_goals
      (try simp only [Exit.inBlock, Exit.then])
      go_wp2_with (fail)
      go_meet
      refine ⟨_, _, rfl, rfl, ?_, ?_, ?_, ?_, ?_⟩
      · repeat (first | (refine Ext.setCell ?_ (by simp <;> omega) _) | refine Ext.drew ?_ | refine Ext.alloc ?_ _)
        exact Ext.refl _
      all_goals go_cell
  case rest =>
    obtain ⟨y1, y2, rfl, rfl, hE, z0, z1, z2, z3⟩ := hcut
    have y1s := World.block_lt_of_cell? _ _ z0
    have y2s := World.block_lt_of_cell? _ _ z2
    have v0 := hE.cell p0
    have v1 := hE.cell p1
    have v2 := hE.cell p2
    have v3 := hE.cell p3
    have x0 := hE.cell f0
    have x1 := hE.cell q0
    have hcc := fun W (hW : Ext wc W) => compareS _ Ax cx s A3 A4 c3 c4 r1 r2 W (Rd.Sl.ext (Rd.Sl.ext hsch hE) hW) hs ((f1.ext hE).ext hW) ((q1.ext hE).ext hW) ho1.key ho2.key
    have ex := hE
    clear p0 p1 p2 p3 p4 f0 q0 a0 a1 b0 b1 hsch f1 q1 hB ho1 ho2
    have keep : ∀ w', Ext wc w' → Ext wc w' ∧ w'.cell? ⟨qg, 0, none⟩ = some (.slice Ax s.types.length cx) ∧ w'.cell? ⟨qg, 1, none⟩ = some (.int .i64 s.keys) ∧ w'.cell? ⟨qg, 2, none⟩ = some (.int .i64 s.mode) ∧ w'.cell? ⟨qg, 3, none⟩ = some (.int .i64 s.grain) ∧ w'.cell? ⟨y1, 0, none⟩ = some (.slice (some ⟨g1, o1, none⟩) (t1.length + 1) c1) ∧ w'.cell? ⟨y1, 1, none⟩ = some (.int .i64 j1) ∧ w'.cell? ⟨y2, 0, none⟩ = some (.slice (some ⟨g2, o2, none⟩) (t2.length + 1) c2) ∧ w'.cell? ⟨y2, 1, none⟩ = some (.int .i64 j2) ∧ w'.cell? ⟨g1, o1, none⟩ = some (.slice A3 r1.length c3) ∧ w'.cell? ⟨g2, o2, none⟩ = some (.slice A4 r2.length c4) := fun w' h => ⟨h, h.cell v0, h.cell v1, h.cell v2, h.cell v3, h.cell z0, h.cell z1, h.cell z2, h.cell z3, h.cell x0, h.cell x1⟩
    go_wp2_with (fail)
    go_region_held3 (fun w' => Ext wc w' ∧ w'.cell? ⟨qg, 0, none⟩ = some (.slice Ax s.types.length cx) ∧ w'.cell? ⟨qg, 1, none⟩ = some (.int .i64 s.keys) ∧ w'.cell? ⟨qg, 2, none⟩ = some (.int .i64 s.mode) ∧ w'.cell? ⟨qg, 3, none⟩ = some (.int .i64 s.grain) ∧ w'.cell? ⟨y1, 0, none⟩ = some (.slice (some ⟨g1, o1, none⟩) (t1.length + 1) c1) ∧ w'.cell? ⟨y1, 1, none⟩ = some (.int .i64 j1) ∧ w'.cell? ⟨y2, 0, none⟩ = some (.slice (some ⟨g2, o2, none⟩) (t2.length + 1) c2) ∧ w'.cell? ⟨y2, 1, none⟩ = some (.int .i64 j2) ∧ w'.cell? ⟨g1, o1, none⟩ = some (.slice A3 r1.length c3) ∧ w'.cell? ⟨g2, o2, none⟩ = some (.slice A4 r2.length c4)) (((try dsimp only); refine keep _ ?_; first | with_reducible assumption | exact (by (repeat (first | with_reducible refine Ext.drew ?_ | with_reducible refine Ext.drewN ?_ _ | with_reducible refine Ext.alloc ?_ _)); first | with_reducible assumption | with_reducible exact Ext.refl _))) (first | (go_at_call 52; refine (hcc _ (by (repeat (first | with_reducible refine Ext.drew ?_ | with_reducible refine Ext.drewN ?_ _ | with_reducible refine Ext.alloc ?_ _)); first | with_reducible assumption | with_reducible exact Ext.refl _)).mono ?_; rintro e w1 ⟨rfl, hE1⟩; have hE9 := Ext.trans (a := wc) (by (repeat (first | with_reducible refine Ext.drew ?_ | with_reducible refine Ext.drewN ?_ _ | with_reducible refine Ext.alloc ?_ _)); first | with_reducible assumption | with_reducible exact Ext.refl _) hE1) | (go_at_call 441; refine (cmpNC _ _ _).mono ?_; rintro e w2 ⟨rfl, hw2⟩; have hE2 : Ext wc w2 := (by rw [← hw2]; exact (by (repeat (first | with_reducible refine Ext.drew ?_ | with_reducible refine Ext.drewN ?_ _ | with_reducible refine Ext.alloc ?_ _)); first | with_reducible assumption | with_reducible exact Ext.refl _))) | (go_at_call 440; refine (or2C (cmpS s r1 r2) (cmpI j1 j2) _ _ _ (blk_cell (blk_new _ _) 0) (blk_cell (blk_new _ _) 1)).mono ?_; rintro e w3 ⟨rfl, hw3⟩; have hE3 : Ext wc w3 := (by rw [hw3]; exact (by (repeat (first | with_reducible refine Ext.drew ?_ | with_reducible refine Ext.drewN ?_ _ | with_reducible refine Ext.alloc ?_ _)); first | with_reducible assumption | with_reducible exact Ext.refl _))))
    (try simp only [Exit.inBlock, Exit.then])
    go_wp2
    go_ret
    exact ⟨rfl, Ext.trans hE (by (repeat (first | with_reducible refine Ext.drew ?_ | with_reducible refine Ext.drewN ?_ _ | with_reducible refine Ext.alloc ?_ _)); first | with_reducible assumption | with_reducible exact Ext.refl _)⟩
end K62
namespace K63
open Go Go.RowKit
open KB K1 K2 K3 K5 P1 P2 K62
set_option linter.unusedVariables false
set_option linter.unusedSimpArgs false
set_option maxHeartbeats 2000000
set_option maxRecDepth 100000
/-- An element of two cells laid anew. -/
theorem own_src {F : Nat → Prop} {B : Nat} {w : World} {g n cap : Nat} {l : List SrcM} (h : rdSrc.Own F B 292 w (.slice (some ⟨g, 0, none⟩) n cap) l) {i : Nat} (hi : i < l.length) {A : Option Addr} {c : Nat} {y : SrcM} {m : Nat} (hm : m = y.1.length) (hA : rdRow.Sl (Fv F (.slice (some ⟨g, 0, none⟩) n cap)) w A c y.1) :
    rdSrc.Own F B 292 ((w.setCell ⟨g, i * 2, none⟩ (.slice A m c)).setCell ⟨g, i * 2 + 1, none⟩ (.int .i64 y.2)) (.slice (some ⟨g, 0, none⟩) n cap) (l.set i y) := by
  subst hm
  have h1 := h.setj hi (j := 0) (by decide) (u := .slice A y.1.length c) (y := (y.1, l[i].2)) (fun cs hcs => by
    obtain ⟨A', c', rfl, hs⟩ := hcs
    exact ⟨A, c, rfl, hA⟩)
  have hil : i < (l.set i (y.1, l[i].2)).length := by simpa using hi
  have h2 := h1.setj hil (j := 1) (by decide) (u := .int .i64 y.2) (y := y) (fun cs hcs => by
    obtain ⟨A', c', rfl, hs⟩ := hcs
    rw [List.getElem_set_self] at hs ⊢
    exact ⟨A', c', rfl, hs⟩)
  rw [List.set_set] at h2
  exact h2
theorem swapC (F : Nat → Prop) (qg lg cap : Nat) (Ax : Option Addr) (cx : Nat) (s : Sch) (l : List SrcM) (w : World) (h : HeapAt F w qg lg cap Ax cx s l) (i k : Nat) (hi : i < l.length) (hk : k < l.length) :
    Calls Tryz.prog 439 #[BP qg, .int .i64 i, .int .i64 k] w fun e w' => e = .returned (.tuple #[]) ∧ HeapAt F w' qg lg cap Ax cx s (sw ([], 0) l i k) ∧ Keep (fun j => j = lg) w w' := by
  obtain ⟨cs1, ⟨A1, c1, rfl, a2⟩, ha, hfr⟩ := h.own.cellj hi
  obtain ⟨cs2, ⟨A2, c2, rfl, b2⟩, hb, _⟩ := h.own.cellj hk
  have a0 := ha 0 _ rfl
  have a1 := ha 1 _ rfl
  have b0 := hb 0 _ rfl
  have b1 := hb 1 _ rfl
  rw [show i * rdSrc.sz + 0 = i * 2 from rfl] at a0
  rw [show i * rdSrc.sz + 1 = i * 2 + 1 from rfl] at a1
  rw [show k * rdSrc.sz + 0 = k * 2 from rfl] at b0
  rw [show k * rdSrc.sz + 1 = k * 2 + 1 from rfl] at b1
  have u0 := hfr (i * 2)
  have u1 := hfr (i * 2 + 1)
  have u2 := hfr (k * 2)
  have u3 := hfr (k * 2 + 1)
  have e1 : l.getD i ([], 0) = l[i] := by simp [List.getD_eq_getElem?_getD, hi]
  have e2 : l.getD k ([], 0) = l[k] := by simp [List.getD_eq_getElem?_getD, hk]
  have hO1 := own_src h.own hi (y := l[k]) rfl b2
  have hkl : k < (l.set i l[k]).length := by simpa using hk
  have K1 := keep_set1 w lg (i * 2) (.slice A2 l[k].1.length c2)
  have K2 := keep_set1 (w.setCell ⟨lg, i * 2, none⟩ (.slice A2 l[k].1.length c2)) lg (i * 2 + 1) (.int .i64 l[k].2)
  have hO2 := own_src hO1 hkl (y := l[i]) rfl (a2.keep ((K1.trans K2).mono (fun j _ q => .inr (by rw [q]; rfl))))
  obtain ⟨cs3, ⟨A3, c3, rfl, _⟩, hc3, hf3⟩ := hO1.cellj hkl
  have q0 := hc3 0 _ rfl
  have q1 := hc3 1 _ rfl
  rw [show k * rdSrc.sz + 0 = k * 2 from rfl] at q0
  rw [show k * rdSrc.sz + 1 = k * 2 + 1 from rfl] at q1
  have t0 := hf3 (k * 2)
  have t1 := hf3 (k * 2 + 1)
  clear hc3 hf3
  generalize (l.set i l[k])[k] = z at q0 q1
  generalize hw1 : (w.setCell ⟨lg, i * 2, none⟩ (.slice A2 l[k].1.length c2)).setCell ⟨lg, i * 2 + 1, none⟩ (.int .i64 l[k].2) = w1 at *
  have K3 := keep_set1 w1 lg (k * 2) (.slice A1 l[i].1.length c1)
  have K4 := keep_set1 (w1.setCell ⟨lg, k * 2, none⟩ (.slice A1 l[i].1.length c1)) lg (k * 2 + 1) (.int .i64 l[i].2)
  have KK := ((K1.trans K2).trans K3).trans K4
  have hfin : HeapAt F ((w1.setCell ⟨lg, k * 2, none⟩ (.slice A1 l[i].1.length c1)).setCell ⟨lg, k * 2 + 1, none⟩ (.int .i64 l[i].2)) qg lg cap Ax cx s (sw ([], 0) l i k) := by
    rw [sw, e1, e2]
    refine ⟨?_, ?_, h.ne, by rw [List.length_set, List.length_set]; exact h.cp, Rd.Sl.keep h.sch (KK.mono (fun _ _ q => .inr q))⟩
    · have := KK.blk h.ne h.blk
      rw [List.length_set, List.length_set]; exact this
    · rw [List.length_set, List.length_set]; exact hO2
  have d0 : (0 : Int) ≤ i := by omega
  have d1 : (i : Int) < l.length := by omega
  have d2 : (0 : Int) ≤ k := by omega
  have d3 : (k : Int) < l.length := by omega
  have p4 := blk_cell h.blk 4
  have hne := h.ne
  have hne' : ¬ lg = qg := fun e => hne e.symm
  have HF := As.mk hfin
  have HK := As.mk KK
  clear hfin KK K1 K2 K3 K4 hO1 hO2 h a2 b2 ha hb hfr e1 e2
  subst hw1
  generalize l[i] = x at *
  generalize l[k] = y at *
  go_enter Tryz.func439, Tryz.ntmps439
  go_wp2_with (fail)
  go_region
  (try simp only [Exit.inBlock, Exit.then])
  go_wp2
  go_returns
  exact ⟨rfl, HF.out.ext ((Ext.refl _).drew), HK.out.post ((Ext.refl _).drew)⟩
theorem heap_pre {F : Nat → Prop} {w : World} {qg lg cap : Nat} {Ax : Option Addr} {cx : Nat} {s : Sch} {l : List SrcM} (h : HeapAt F w qg lg cap Ax cx s l) (n : Nat) (hn : n ≤ l.length) : HeapAt F (w.setCell ⟨qg, 4, none⟩ (.slice (some ⟨lg, 0, none⟩) n cap)) qg lg cap Ax cx s (l.take n) := by
  have hl : (l.take n).length = n := by rw [List.length_take]; omega
  have K := keep_set1 w qg 4 (.slice (some ⟨lg, 0, none⟩) n cap)
  refine ⟨?_, ?_, h.ne, by rw [hl]; have := h.cp; omega, Rd.Sl.keep h.sch (K.mono (fun _ _ q => .inl (.inr q)))⟩
  · rw [hl]; exact blk_set h.blk 4 _
  · rw [hl]
    exact (h.own.take hn).keep2 (K.mono (fun _ _ q => .inl (.inr q))) (fun g hg => by cases hg; exact K.block _ (h.own.ge lg rfl).2 (fun e => h.ne e.symm))
theorem popC (F : Nat → Prop) (qg lg cap : Nat) (Ax : Option Addr) (cx : Nat) (s : Sch) (l : List SrcM) (w : World) (h : HeapAt F w qg lg cap Ax cx s l) (n : Nat) (hn : l.length = n + 1) (hn1 : n ≤ 1000) :
    Calls Tryz.prog 438 #[BP qg] w fun e w' => (∃ v, e = .returned v) ∧ HeapAt F w' qg lg cap Ax cx s (l.take n) ∧ Keep (fun j => j = qg) w w' := by
  obtain ⟨A1, c1, a0, a1, a2⟩ := h.src (i := n) (by omega)
  have p4 := blk_cell h.blk 4
  have pf4 := blk_froz h.blk 4
  have hq : qg < w.heap.size := blk_lt h.blk
  have hlg : lg < w.heap.size := (h.own.ge lg rfl).2
  have hE := (Ext.refl (w.setCell ⟨qg, 4, none⟩ (.slice (some ⟨lg, 0, none⟩) n cap))).alloc (.cells #[.slice A1 l[n].1.length c1, .int .i64 l[n].2] 292)
  have hfin := (heap_pre h n (by omega)).ext hE
  have hK := (keep_set1 w qg 4 (.slice (some ⟨lg, 0, none⟩) n cap)).post hE
  have e1 : ((n + 1 : Nat) : Int) - 1 = n := by omega
  have hcut : ∀ kh W, (Instr.slice 288 (.slice (some ⟨lg, 0, none⟩) (n + 1) cap) none (some (.int kh n)) none).run Tryz.prog W = .ok (.slice (some ⟨lg, 0, none⟩) n cap) W := fun kh W => own_pre (sz := 2) elSrc lg (n + 1) cap n (by omega) (hn ▸ h.cp) kh W
  have d0 : (0 : Int) ≤ n := by omega
  have d1 : (n : Int) < l.length := by omega
  have HF := As.mk hfin
  have HK := As.mk hK
  have hw : IntKind.i64.wrap ((l.length : Int) - 1) = (n : Int) := by rw [IntKind.wrap_i64]; omega
  clear hfin hK hE h
  generalize l[n] = x at *
  have HN := As.mk hn
  rw [hn] at p4 d1 hw
  clear hn
  go_enter Tryz.func438, Tryz.ntmps438
  go_wp2_with (fail)
  go_ret
  exact ⟨⟨_, rfl⟩, HF.out, HK.out⟩
end K63
end Go.Proofs.YtbjeejimedhniaaGreatDoor
