/- Contracts of the program's functions, as the walks of the law use them. -/
import Derived.Test.YtbjeejimedhniaaGreatDoorD10
import Derived.Test.YtbjeejimedhniaaGreatDoorD12
import Derived.Test.YtbjeejimedhniaaGreatDoorD14
import Derived.Test.YtbjeejimedhniaaGreatDoorD18
import Derived.Test.YtbjeejimedhniaaGreatDoorD11
import Derived.Test.YtbjeejimedhniaaGreatDoorD17
set_option linter.unusedVariables false
set_option linter.unusedSimpArgs false
set_option maxRecDepth 100000
set_option maxHeartbeats 2000000
namespace Go.Proofs.YtbjeejimedhniaaGreatDoor
namespace P7
open P1 P2 P3
variable {α : Type}
theorem mergeR_ok {c : α → α → Int} {P : α → Prop} (h : Ord c P) (ls : List (List α)) (hs : ∀ x ∈ ls, Srt c x ∧ ∀ r ∈ x, P r) :
   (mergeR c ls).Perm ls.flatten ∧ Srt c (mergeR c ls) ∧ ∀ k, P k → cls c k (mergeR c ls) = cls c k ls.flatten := by
 have hQ : ∀ x ∈ srcs ls, x.1 ≠ [] ∧ ∀ r ∈ x.1, P r := by
   rintro ⟨x, i⟩ hx
   have := srcs_mem.1 hx
   exact ⟨this.2, (hs x (List.mem_of_getElem? this.1)).2⟩
 obtain ⟨h1, h2⟩ := initF_ok (ltS_ok h) ([], 0) (srcs ls).length ((srcs ls).length / 2) (srcs ls) rfl hQ (Nat.div_le_self _ _) (heap_half _ _ _ _)
 have hl : (initF (ltS c) ([], 0) (srcs ls).length ((srcs ls).length / 2) (srcs ls)).length = (srcs ls).length := h1.length_eq
 obtain ⟨M, e, h3, h4, h5⟩ := mergeF_ok h ls.flatten.length _ ls [] (Nat.le_refl _) h1 (by rw [hl]; exact h2) (fun x hx => (hs x hx))
 rw [List.nil_append] at e
 rw [mergeR, e]
 exact ⟨h3, h4, h5⟩
structure Inv (c : α → α → Int) (P : α → Prop) (hist : List α) (parts : List (List α)) : Prop where
 srt : ∀ x ∈ parts, Srt c x
 all : ∀ x ∈ parts, ∀ r ∈ x, P r
 ne : ∀ x ∈ parts, x ≠ []
 last : ∀ k, P k → (cls c k parts.flatten).getLast? = (cls c k hist).getLast?
 sub : ∀ r ∈ parts.flatten, r ∈ hist
theorem Inv.nil (c : α → α → Int) (P : α → Prop) : Inv c P [] [] := ⟨by simp, by simp, by simp, fun _ _ => rfl, by simp⟩
theorem Inv.insert {c : α → α → Int} {P : α → Prop} {hist : List α} {parts : List (List α)} (h : Inv c P hist parts) {r : α} (hr : P r) : Inv c P (hist ++ [r]) (parts ++ [[r]]) := by
 refine ⟨fun x hx => ?_, fun x hx y hy => ?_, fun x hx => ?_, fun k hk => ?_, fun y hy => ?_⟩
 · rcases List.mem_append.1 hx with q | q
   · exact h.srt x q
   · simp at q; subst q; exact List.pairwise_singleton _ _
 · rcases List.mem_append.1 hx with q | q
   · exact h.all x q y hy
   · simp at q; subst q; simp at hy; subst hy; exact hr
 · rcases List.mem_append.1 hx with q | q
   · exact h.ne x q
   · simp at q; subst q; simp
 · rw [List.flatten_append, cls_append, cls_append, List.getLast?_append, List.getLast?_append, h.last k hk]; simp
 · rw [List.flatten_append] at hy
   rcases List.mem_append.1 hy with q | q
   · exact List.mem_append_left _ (h.sub y q)
   · exact List.mem_append_right _ (by simpa using q)
theorem last_toList {l : Option α} : l.toList.getLast? = l := by cases l <;> rfl
theorem Inv.merge {c : α → α → Int} {P : α → Prop} (ho : Ord c P) {hist : List α} {A B C : List (List α)} (h : Inv c P hist (A ++ B ++ C)) (hB : B ≠ []) : Inv c P hist (A ++ [foldL c (fun _ b => b) (mergeR c B)] ++ C) := by
 have hm : ∀ {x}, x ∈ B → x ∈ A ++ B ++ C := fun hx => List.mem_append_left _ (List.mem_append_right _ hx)
 obtain ⟨m1, m2, m3⟩ := mergeR_ok ho B (fun x hx => ⟨h.srt x (hm hx), h.all x (hm hx)⟩)
 have hP : ∀ r ∈ mergeR c B, P r := fun r hr => by
   obtain ⟨x, hx, hr⟩ := List.mem_flatten.1 (m1.mem_iff.1 hr)
   exact h.all x (hm hx) r hr
 have h1 : OneOk c P (fun _ b => b) := fun a b ha hb e => ⟨hb, ho.zero ha hb e⟩
 obtain ⟨f1, f2, f3, f4, f5⟩ := foldL_ok ho h1 (mergeR c B) hP m2
 have hsub : ∀ l : List α, ∀ r ∈ foldL c (fun _ b => b) l, r ∈ l := by
   refine snoc_rec (fun r hr => by simp [foldL] at hr) fun l x ih r hr => ?_
   rw [foldL_snoc] at hr
   rcases snoc_cases (foldL c (fun _ b => b) l) with e | ⟨m, o, e⟩
   · rw [e, foldStep_nil] at hr; simp at hr; simp [hr]
   · rw [e] at hr ih
     rw [foldStep_snoc] at hr
     split at hr
     · rcases List.mem_append.1 hr with q | q
       · exact List.mem_append_left _ (ih r (List.mem_append_left _ q))
       · exact List.mem_append_right _ q
     · rcases List.mem_append.1 hr with q | q
       · exact List.mem_append_left _ (ih r q)
       · exact List.mem_append_right _ q
 have hne : foldL c (fun _ b => b) (mergeR c B) ≠ [] := by
   intro e
   have e2 := f4.1 e
   rw [e2] at m1
   have e3 := m1.nil_eq.symm
   obtain ⟨b, t, rfl⟩ := List.exists_cons_of_ne_nil hB
   have := h.ne b (hm (by simp))
   rw [List.flatten_cons] at e3
   exact this (List.append_eq_nil_iff.1 e3).1
 refine ⟨fun x hx => ?_, fun x hx y hy => ?_, fun x hx => ?_, fun k hk => ?_, fun y hy => ?_⟩
 · rcases List.mem_append.1 hx with q | q
   · rcases List.mem_append.1 q with q | q
     · exact h.srt x (by simp [q])
     · simp at q; subst q; exact f1.imp fun e => Int.le_of_lt e
   · exact h.srt x (by simp [q])
 · rcases List.mem_append.1 hx with q | q
   · rcases List.mem_append.1 q with q | q
     · exact h.all x (by simp [q]) y hy
     · simp at q; subst q; exact (f2 y hy).1
   · exact h.all x (by simp [q]) y hy
 · rcases List.mem_append.1 hx with q | q
   · rcases List.mem_append.1 q with q | q
     · exact h.ne x (by simp [q])
     · simp at q; subst q; exact hne
   · exact h.ne x (by simp [q])
 · rw [← h.last k hk]
   simp only [List.flatten_append, cls_append, List.getLast?_append, List.flatten_cons, List.flatten_nil, List.append_nil]
   rw [foldL_last ho _ hP m2 k hk, m3 k hk, last_toList]
 · refine h.sub y ?_
   simp only [List.flatten_append, List.mem_append, List.flatten_cons, List.flatten_nil, List.append_nil] at hy ⊢
   rcases hy with (q | q) | q
   · exact .inl (.inl q)
   · exact .inl (.inr (m1.mem_iff.1 (hsub _ y q)))
   · exact .inr q
theorem Inv.final {c : α → α → Int} {P : α → Prop} (ho : Ord c P) {hist : List α} {parts : List (List α)} (h : Inv c P hist parts) (kk : α → Nat) (n : Nat)
   (hk0 : ∀ a b, P a → P b → (c a b = 0 ↔ kk a = kk b)) (hk1 : ∀ a b, P a → P b → kk a < kk b → c a b < 0) (hP : ∀ a ∈ hist, P a ∧ kk a < n) :
   foldL c (fun _ b => b) (mergeR c parts) = (List.range n).filterMap fun k => (hist.filter fun a => decide (kk a = k)).getLast? := by
 obtain ⟨m1, m2, m3⟩ := mergeR_ok ho parts (fun x hx => ⟨h.srt x hx, h.all x hx⟩)
 have hPm : ∀ r ∈ mergeR c parts, P r := fun r hr => (hP r (h.sub r (m1.mem_iff.1 hr))).1
 have h1 : OneOk c P (fun _ b => b) := fun a b ha hb e => ⟨hb, ho.zero ha hb e⟩
 obtain ⟨f1, f2, f3, f4, f5⟩ := foldL_ok ho h1 (mergeR c parts) hPm m2
 have hmem : ∀ {a k}, (hist.filter fun a => decide (kk a = k)).getLast? = some a → a ∈ hist ∧ kk a = k := fun {a k} e => by
   have := List.mem_of_getLast? e
   simpa using this
 refine stable_unique ho _ _ (fun a ha => (f2 a ha).1) (fun a ha => ?_) (f1.imp fun e => Int.le_of_lt e) ?_ (fun k hk => ?_)
 · obtain ⟨k, _, e⟩ := List.mem_filterMap.1 ha
   exact (hP a (hmem e).1).1
 · refine List.Pairwise.filterMap (R := fun a b => a < b) _ (fun a b hab x hx y hy => ?_) (List.pairwise_lt_range)
   have e1 := hmem hx
   have e2 := hmem hy
   have := hk1 x y (hP x e1.1).1 (hP y e2.1).1 (by omega)
   omega
 · rw [foldL_last ho _ hPm m2 k hk, m3 k hk, h.last k hk]
   have hcl : cls c k hist = hist.filter fun a => decide (kk a = kk k) := by
     refine List.filter_congr fun a ha => ?_
     have := hk0 a k (hP a ha).1 hk
     by_cases e : c a k = 0
     · simp [e, this.1 e]
     · simp [e]; exact fun q => e (this.2 q)
   rw [hcl]
   clear hcl
   have gen : ∀ m : Nat, (∀ a ∈ hist, P a) → cls c k ((List.range m).filterMap fun j => (hist.filter fun a => decide (kk a = j)).getLast?) = if kk k < m then (hist.filter fun a => decide (kk a = kk k)).getLast?.toList else [] := by
     intro m hh
     induction m with
     | zero => rfl
     | succ m ih =>
       rw [List.range_succ, List.filterMap_append, cls_append, ih]
       cases e : (hist.filter fun a => decide (kk a = m)).getLast? with
       | none =>
         simp only [List.filterMap_cons, List.filterMap_nil, e]
         by_cases h2 : kk k < m
         · rw [if_pos h2, if_pos (by omega)]; simp [cls]
         · rw [if_neg h2]
           by_cases h3 : kk k = m
           · subst h3; rw [if_pos (by omega), e]; rfl
           · rw [if_neg (by omega)]; rfl
       | some a =>
         have ea := hmem e
         simp only [List.filterMap_cons, List.filterMap_nil, e]
         have hca := hk0 a k (hh a ea.1) hk
         by_cases h2 : kk k < m
         · rw [if_pos h2, if_pos (by omega)]
           have : c a k ≠ 0 := fun q => by have := hca.1 q; omega
           simp [cls, this]
         · rw [if_neg h2]
           by_cases h3 : kk k = m
           · subst h3
             rw [if_pos (by omega), e]
             simp [cls, hca.2 ea.2]
           · rw [if_neg (by omega)]
             have : c a k ≠ 0 := fun q => by have := hca.1 q; omega
             simp [cls, this]
   rw [gen n (fun a ha => (hP a ha).1)]
   by_cases h2 : kk k < n
   · rw [if_pos h2]
   · rw [if_neg h2]
     have : hist.filter (fun a => decide (kk a = kk k)) = [] := by
       rw [List.filter_eq_nil_iff]; intro a ha; have := (hP a ha).2; simp; omega
     rw [this]; rfl
end P7
namespace K71
open Go Go.RowKit
open KB KB2 K1 K2 K3 K5 P2 P3 P4 P7 K60 K61 K65 K68 K69 K70
open K19 (PartAt PartAt.keep PartAt.ext)
def rdPart (s : Sch) : Rd (List Row) where
 sz := 1
 C := fun F w cs l => ∃ g, cs = [PX g] ∧ PartAt F w g s l
 len := by rintro _ _ _ _ ⟨g, rfl, _⟩; rfl
 keep := by rintro _ _ _ _ _ k ⟨g, rfl, h⟩; exact ⟨g, rfl, h.keep k⟩
 narrow := by rintro _ _ _ _ _ k ⟨g, rfl, h⟩; exact ⟨g, rfl, part_narrow h k⟩
 one := by rintro _ _ _ _ ⟨g, rfl, _⟩ u hu; simp at hu; subst hu; rfl
theorem part_get {F : Nat → Prop} {w : World} {s : Sch} {A : Option Addr} {c : Nat} {l : List (List Row)} (h : (rdPart s).Sl F w A c l) {k : Nat} (hk : k < l.length) : ∃ b o g, A = some ⟨b, o, none⟩ ∧ w.cell? ⟨b, o + k, none⟩ = some (PX g) ∧ PartAt F w g s l[k] := by
 obtain ⟨b, o, e, _, cs, ⟨g, rfl, hp⟩, hc⟩ := h.get hk
 refine ⟨b, o, g, e, ?_, hp⟩
 have := hc 0 _ rfl
 rw [show k * (rdPart s).sz = k from Nat.mul_one k] at this
 exact this
theorem elRows : El Tryz.prog 51 42 rdRows.sz 24 := El.mk (z := .slice none 0 0) Tryz.underlying51 (by kernel_rfl) rfl (by decide)
theorem foldPC (F : Nat → Prop) (Ax : Option Addr) (cx : Nat) (s : Sch) (hm : s.mode = 1) (A : Option Addr) (c : Nat) (l : List Row) (w : World) (hl : rdRow.Sl F w A c l) (hn : l.length ≤ 100000) (hF : ∀ k, F k → k < w.heap.size) :
   Calls Tryz.prog 116 #[schV Ax cx s, .slice A l.length c] w fun e w' => ∃ A' c', e = .returned (.slice A' l.length c') ∧ rdRow.Sl F w' A' c' l ∧ Ext w w' := by
 have hE1 := (Ext.refl w).alloc (.cells #[.slice Ax s.types.length cx, .int .i64 s.keys, .int .i64 s.mode, .int .i64 s.grain] 27)
 have dm : (((s.mode : Nat) : Int) == 1) = true := by simp; omega
 have HM := As.mk hm
 clear hm
 go_enter Tryz.func116, Tryz.ntmps116
 go_wp2_with (fail)
 refine (K9.cloneR F A c l _ (hl.ext hE1) (by omega) (FExt hF hE1)).mono ?_; rintro e w2 ⟨A2, c2, rfl, hs2, hE2⟩
 go_wp2
 go_ret
 exact ⟨A2, c2, rfl, hs2, hE1.trans hE2⟩
theorem foldC (F : Nat → Prop) (Ax : Option Addr) (cx : Nat) (s : Sch) (hs : s.Ok) (A : Option Addr) (c : Nat) (l : List Row) (w : World) (hA : SchAt F w Ax cx s) (hl : rdRow.Sl F w A c l) (hn : l.length ≤ 100000) (ho : ∀ r ∈ l, RowOk s r) (hF : ∀ k, F k → k < w.heap.size) :
   Calls Tryz.prog 116 #[schV Ax cx s, .slice A l.length c] w fun e w' => ∃ A' c', e = .returned (.slice A' (foldS s l).length c') ∧ rdRow.Sl F w' A' c' (foldS s l) ∧ Ext w w' := by
 unfold foldS
 by_cases hm : s.mode = 1
 · rw [if_pos hm]; exact foldPC F Ax cx s hm A c l w hl hn hF
 · rw [if_neg hm]; exact foldFC F Ax cx s hs hm A c l w hA hl hn ho hF
theorem foldS_len (s : Sch) (l : List Row) : (foldS s l).length ≤ l.length := by
 unfold foldS; split
 · exact Nat.le_refl _
 · exact foldL_len s l
theorem foldS_rows {s : Sch} (l : List Row) (h : ∀ r ∈ l, RowOk s r) : ∀ r ∈ foldS s l, RowOk s r := by
 unfold foldS; split
 · exact h
 · exact foldL_rows l h
abbrev q0V (fin : Bool) : Value := .agg #[.bool false, .bool false, .slice none 0 0, .slice none 0 0, .bool fin, .slice none 0 0, .slice none 0 0]
def told (s : Sch) (fin : Bool) (parts : List (List Row)) : List Row := if fin then foldS s (mergeR (cmpS s) parts) else mergeR (cmpS s) parts
theorem runC (F : Nat → Prop) (Ax : Option Addr) (cx : Nat) (s : Sch) (hs : s.Ok) (A : Option Addr) (c : Nat) (parts : List (List Row)) (fin : Bool) (w : World) (hA : SchAt F w Ax cx s) (hp : (rdPart s).Sl F w A c parts) (hn : parts.length ≤ 1000) (hN : parts.flatten.length ≤ 100000) (ho : ∀ x ∈ parts, Srt (cmpS s) x ∧ ∀ r ∈ x, RowOk s r) (hF : ∀ k, F k → k < w.heap.size) :
   Calls Tryz.prog 49 #[schV Ax cx s, .slice A parts.length c, q0V fin] w fun e w' => ∃ (A' : Option Addr) (c' : Nat) (n : Int), e = .returned (.tuple #[.agg #[.slice A' (told s fin parts).length c', .slice none 0 0, .int .i64 n], .int .i64 0]) ∧ rdRow.Sl F w' A' c' (told s fin parts) ∧ Ext w w' := by
 obtain ⟨x, hx⟩ : ∃ x, w.heap.size = x := ⟨_, rfl⟩
 have hE1 := (((Ext.refl w).alloc (.cells #[.slice Ax s.types.length cx, .int .i64 s.keys, .int .i64 s.mode, .int .i64 s.grain] 27)).alloc (.cells #[.bool false, .bool false, .slice none 0 0, .slice none 0 0, .bool fin, .slice none 0 0, .slice none 0 0] 75)).alloc (.cells #[.slice none 0 0, .slice none 0 0, .int .i64 0] 67)
 have B1 := bO2 (o' := .cells #[.slice none 0 0, .slice none 0 0, .int .i64 0] 67) (bO2 (o' := .cells #[.bool false, .bool false, .slice none 0 0, .slice none 0 0, .bool fin, .slice none 0 0, .slice none 0 0] 75) (bN w (.cells #[.slice Ax s.types.length cx, .int .i64 s.keys, .int .i64 s.mode, .int .i64 s.grain] 27)))
 have B2 := bO2 (o' := .cells #[.slice none 0 0, .slice none 0 0, .int .i64 0] 67) (bN (w.alloc (.cells #[.slice Ax s.types.length cx, .int .i64 s.keys, .int .i64 s.mode, .int .i64 s.grain] 27)) (.cells #[.bool false, .bool false, .slice none 0 0, .slice none 0 0, .bool fin, .slice none 0 0, .slice none 0 0] 75))
 have B3 := bN ((w.alloc (.cells #[.slice Ax s.types.length cx, .int .i64 s.keys, .int .i64 s.mode, .int .i64 s.grain] 27)).alloc (.cells #[.bool false, .bool false, .slice none 0 0, .slice none 0 0, .bool fin, .slice none 0 0, .slice none 0 0] 75)) (.cells #[.slice none 0 0, .slice none 0 0, .int .i64 0] 67)
 simp only [World.size_alloc] at B2 B3
 obtain ⟨m1, m2, m3⟩ := mergeR_ok (cmpS_ord s) parts ho
 have hmr : ∀ r ∈ mergeR (cmpS s) parts, RowOk s r := fun r hr => by
   obtain ⟨y, hy, hr⟩ := List.mem_flatten.1 (m1.mem_iff.1 hr)
   exact (ho y hy).2 r hr
 have hml : (mergeR (cmpS s) parts).length ≤ 100000 := by rw [m1.length_eq]; exact hN
 clear m1 m2 m3
 go_enter Tryz.func49, Tryz.ntmps49
 go_wp2_with (fail)
 generalize (((w.alloc (.cells #[.slice Ax s.types.length cx, .int .i64 s.keys, .int .i64 s.mode, .int .i64 s.grain] 27)).alloc (.cells #[.bool false, .bool false, .slice none 0 0, .slice none 0 0, .bool fin, .slice none 0 0, .slice none 0 0] 75)).alloc (.cells #[.slice none 0 0, .slice none 0 0, .int .i64 0] 67)) = w1 at *
 rw [hx] at B1 B2 B3
 refine (filterMay0 Ax cx s w1).mono ?_; rintro e w2 ⟨rfl, hE2⟩
 (have p0 := bC (hE2.blk B1) 0; have p1 := bC (hE2.blk B1) 1; have p2 := bC (hE2.blk B1) 2; have p3 := bC (hE2.blk B1) 3)
 (have q0 := bC (hE2.blk B2) 0; have q1 := bC (hE2.blk B2) 1; have q2 := bC (hE2.blk B2) 2; have q3 := bC (hE2.blk B2) 3; have q4 := bC (hE2.blk B2) 4; have q5 := bC (hE2.blk B2) 5; have q6 := bC (hE2.blk B2) 6)
 go_wp2_with (fail)
 refine (aggMay0 Ax cx s w2).mono ?_; rintro e w3 ⟨rfl, hE3⟩
 clear p0 p1 p2 p3 q0 q1 q2 q3 q4 q5 q6
 have hE13 := hE2.trans hE3
 replace B1 := hE13.blk B1
 replace B2 := hE13.blk B2
 replace B3 := hE13.blk B3
 have hE03 := hE1.trans hE13
 have B4 := bN w3 (.cells #[.slice none 0 0, .slice none 0 0, .int .i64 0] 67)
 have hE4 := (Ext.refl w3).alloc (.cells #[.slice none 0 0, .slice none 0 0, .int .i64 0] 67)
 have hyx : x + 1 + 1 < w3.heap.size := blk_lt B3
 go_wp2_with (fail)
 have hE04 := hE03.trans hE4
 replace B1 := hE4.blk B1
 replace B2 := hE4.blk B2
 replace B3 := hE4.blk B3
 have hsz4 : (w3.alloc (.cells #[.slice none 0 0, .slice none 0 0, .int .i64 0] 67)).heap.size = w3.heap.size + 1 := by simp
 generalize (w3.alloc (.cells #[.slice none 0 0, .slice none 0 0, .int .i64 0] 67)) = w4 at *
 have hy0 : w.heap.size ≤ w3.heap.size := hE03.size
 obtain ⟨y, hy⟩ : ∃ y, w3.heap.size = y := ⟨_, rfl⟩
 rw [hy] at B4 hyx hsz4 hy0 ⊢
 clear hE13 hE3 hE2 hE4 hE03
 have hF4 : ∀ k, (F k ∨ k = x + 1 + 1 ∨ k = y) → k < y + 1 := fun k q => by
   rcases q with q | q | q
   · have := hF k q; omega
   · omega
   · omega
 have hpy : (rdPart s).Sl (fun k => F k ∨ x ≤ k) w4 A c parts := Rd.Sl.ext (Rd.Sl.narrow Nat.one_pos hp (fun k hk q => q.elim id (fun q => by omega))) hE04
 have hAy : SchAt (fun k => F k ∨ k = x + 1 + 1 ∨ k = y) w4 Ax cx s := Rd.Sl.ext (Rd.Sl.narrow Nat.one_pos hA (fun k hk q => q.elim id (fun q => q.elim (fun q => by omega) (fun q => by omega)))) hE04
 clear hp hA
 go_loopw [9, 30] (fun v i wr => ∃ (k : Nat) (n : Int), i = .int .i64 k ∧ k ≤ parts.length ∧ 0 ≤ n ∧ n ≤ 100000 * k ∧ rdRows.Own (fun j => F j ∨ j = x + 1 + 1 ∨ j = y) (y + 1) 42 wr v (parts.take k) ∧ wr.heap[y]? = some (.cells #[.slice none 0 0, .slice none 0 0, .int .i64 n] 67 (0, 0)) ∧ Keep (fun j => j = y) w4 wr) (fun _ i _ => parts.length - (intOf i).toNat)
 case atStart => exact ⟨0, 0, by go_num, Nat.zero_le _, Int.le_refl _, by omega, Rd.Own.nil _ _ _ _ _, B4, Keep.refl _ _⟩
 case round =>
   obtain ⟨k, n, rfl, hkl, hn0, hn1, hown, hB, hK⟩ := hrel
   by_cases hlt : k < parts.length
   · obtain ⟨b, o, g, rfl, hc, hpg⟩ := part_get (hpy.keep (hK.mono (fun _ _ q => .inr (by omega)))) hlt
     have HT := As.mk (take_snoc parts hlt)
     have htl : (parts.take k).length ≤ 1000 := by rw [List.length_take]; omega
     have hok := ho parts[k] (List.getElem_mem hlt)
     have hfl := flat_le parts k hlt
     have b1 := hK.blk (by omega : ¬ x = y) B1
     have b2 := hK.blk (by omega : ¬ x + 1 = y) B2
     (have p0 := bC (b1) 0; have p1 := bC (b1) 1; have p2 := bC (b1) 2; have p3 := bC (b1) 3)
     (have q0 := bC (b2) 0; have q1 := bC (b2) 1; have q2 := bC (b2) 2; have q3 := bC (b2) 3; have q4 := bC (b2) 4; have q5 := bC (b2) 5; have q6 := bC (b2) 6)
     have hge := hown.ge
     have hrd := readPC (Fv (fun j => F j ∨ j = x + 1 + 1 ∨ j = y) u9) Ax cx g s hs parts[k] wr (part_narrow hpg (fun j hj q => q.elim (fun q => q.elim .inl (fun q => .inr (by omega))) (fun e => .inr (by have := (hge j e).1; omega)))) (by omega) hok.2 (fun j q => q.elim (fun q => Nat.lt_of_lt_of_le (hF4 j q) (hsz4 ▸ hK.size)) (fun q => (hge j q).2))
     go_wp2_with (fail)
     refine hrd.mono ?_; rintro e w5 ⟨A5, c5, n5, rfl, hn5, hs5, hE5⟩
     have hB5 := hE5.blk hB
     have hy5 : y < wr.heap.size := blk_lt hB
     have hOa := hown.ext (hE5.alloc (.cells #[.slice A5 parts[k].length c5] 42))
     have hsa := hs5.ext ((Ext.refl w5).alloc (.cells #[.slice A5 parts[k].length c5] 42))
     have hkp : ∀ w6, (w5.alloc (.cells #[.slice A5 parts[k].length c5] 42)).grownBy w6 u9.ownBlock → w6.heap[y]? = w5.heap[y]? ∧ Keep (fun j => j = y) w4 w6 := fun w6 hg6 => by
       have k6 : Keep (fun j => y + 1 ≤ j) wr w6 := ((hE5.alloc _).keep _).trans (Keep.of_grown hg6 (fun j hj _ => (hge j hj).1))
       exact ⟨(k6.block y hy5 (by omega)).trans (hE5.block hy5).symm, hK.newB k6 (fun j q => .inr (by rw [hsz4]; exact q))⟩
     have hwn : IntKind.i64.wrap (n + (n5 : Int)) = n + n5 := by rw [IntKind.wrap_i64]; omega
     clear p0 p1 p2 p3 q0 q1 q2 q3 q4 q5 q6 hrd
     go_wp2_with (first | (at_builtin; refine wpList_pushAt rfl (.tmp 42) (.tmp 44) 51 rfl rdRows elRows rfl hOa rfl (heap_alloc_new w5 _) (y := parts[k]) (sl_Cn hsa rfl) (by omega) (by unfold maxLen; omega) (by have := hK.size; have := hE5.size; simp; omega) ?_; intro v' w6 hown6 hg6 hat6; have hB6 := (hkp w6 hg6).1.trans hB5; have y2 := bC hB6 2; have yf2 := bF hB6 2))
     rw [← HT.out] at hown6
     have hown7 := hown6.keep2 ((kS1 w6 y 2 (.int .i64 (n + n5))).mono (fun j _ q => .inl (.inr (.inr q)))) (fun j hj => (kS1 w6 y 2 (.int .i64 (n + n5))).block j (hown6.ge j hj).2 (fun e => by have := (hown6.ge j hj).1; omega))
     go_roundw
     case rel => exact ⟨k + 1, n + n5, by go_num, by omega, by omega, by omega, hown7, bS hB6 2 _, (hkp w6 hg6).2.trans (kS1 _ _ _ _)⟩
     case measure => simp [intOf] <;> omega
   · obtain rfl : k = parts.length := by omega
     rw [List.take_length] at hown
     have b1 := hK.blk (by omega : ¬ x = y) B1
     have b2 := hK.blk (by omega : ¬ x + 1 = y) B2
     have b3 := hK.blk (by omega : ¬ x + 1 + 1 = y) B3
     have hFr : ∀ k, (F k ∨ k = x + 1 + 1 ∨ k = y) → k < wr.heap.size := fun j q => Nat.lt_of_lt_of_le (hF4 j q) (hsz4 ▸ hK.size)
     have hAr := Rd.Sl.keep hAy (hK.mono (fun _ _ q => .inr (.inr q)))
     obtain ⟨A6, c6, rfl, hs6⟩ := hown.shut hF4
     (have p0 := bC (b1) 0; have p1 := bC (b1) 1; have p2 := bC (b1) 2; have p3 := bC (b1) 3)
     (have q0 := bC (b2) 0; have q1 := bC (b2) 1; have q2 := bC (b2) 2; have q3 := bC (b2) 3; have q4 := bC (b2) 4; have q5 := bC (b2) 5; have q6 := bC (b2) 6)
     go_wp2_with (fail)
     refine (rowsC _ Ax cx s hs A6 c6 parts wr hAr hs6 hn hN (fun y hy => (ho y hy).2) hFr).mono ?_; rintro e w7 ⟨A7, c7, rfl, hs7, hE7⟩
     clear p0 p1 p2 p3 q0 q1 q2 q3 q4 q5 q6
     replace b1 := hE7.blk b1
     replace b2 := hE7.blk b2
     replace b3 := hE7.blk b3
     replace hB := hE7.blk hB
     have hE47 : Keep (fun j => j = y) w4 w7 := hK.trans (hE7.keep _)
     cases fin
     · (have p0 := bC (b1) 0; have p1 := bC (b1) 1; have p2 := bC (b1) 2; have p3 := bC (b1) 3)
       (have q0 := bC (b2) 0; have q1 := bC (b2) 1; have q2 := bC (b2) 2; have q3 := bC (b2) 3; have q4 := bC (b2) 4; have q5 := bC (b2) 5; have q6 := bC (b2) 6)
       go_wp2_with (fail)
       refine (keep0 _ Ax cx s A7 c7 (mergeR (cmpS s) parts) w7 hs7 (by omega) (FExt hFr hE7)).mono ?_; rintro e w9 ⟨A9, c9, rfl, hs9, hE9⟩
       clear p0 p1 p2 p3 q0 q1 q2 q3 q4 q5 q6
       have hB9 := hE9.blk hB
       have b39 := hE9.blk b3
       (have q0 := bC (hE9.blk b2) 0; have q1 := bC (hE9.blk b2) 1; have q2 := bC (hE9.blk b2) 2; have q3 := bC (hE9.blk b2) 3; have q4 := bC (hE9.blk b2) 4; have q5 := bC (hE9.blk b2) 5; have q6 := bC (hE9.blk b2) 6)
       (have y0 := bC (hB9) 0; have yf0 := bF (hB9) 0; have y1 := bC (hB9) 1; have yf1 := bF (hB9) 1; have y2 := bC (hB9) 2; have yf2 := bF (hB9) 2)
       (have z0 := bC (b39) 0; have zf0 := bF (b39) 0; have z1 := bC (b39) 1; have zf1 := bF (b39) 1; have z2 := bC (b39) 2; have zf2 := bF (b39) 2)
       have hxy : ¬ x + 1 + 1 = y := by omega
       have hyx' : ¬ y = x + 1 + 1 := by omega
       go_wp2_with (fail)
       have KY := kS1 w9 y 0 (.slice A9 (mergeR (cmpS s) parts).length c9)
       have s0 := bS (KY.blk hxy b39) 0 (.slice A9 (mergeR (cmpS s) parts).length c9)
       have s1 := bS s0 1 (.slice none 0 0)
       have s2 := bS s1 2 (.int .i64 n)
       (have e0 := bC (s2) 0; have e1 := bC (s2) 1; have e2 := bC (s2) 2)
       (try simp only [Exit.inBlock, Exit.then])
       refine bodyPost_ret (v := .tuple #[.agg #[.slice A9 (mergeR (cmpS s) parts).length c9, .slice none 0 0, .int .i64 n], .int .i64 0]) (by simp [results, Tryz.results49, go_sem, e0, e1, e2]) rfl ?_
       have K3 := ((kS1 (w9.setCell ⟨y, 0, none⟩ (.slice A9 (mergeR (cmpS s) parts).length c9)) (x + 1 + 1) 0 (.slice A9 (mergeR (cmpS s) parts).length c9)).trans (kS1 _ (x + 1 + 1) 1 (.slice none 0 0))).trans (kS1 _ (x + 1 + 1) 2 (.int .i64 n))
       have KA := KY.or K3
       exact ⟨A9, c9, n, rfl, (hs9.keep (KA.mono (fun j _ q => q.elim (fun q => .inr (.inr q)) (fun q => .inr (.inl q))))).narrow (by decide) (fun j _ q => .inl q), hE04.keepNew ((hE47.post hE9).or KA) (fun j q => by rcases q with q | q | q <;> omega)⟩
     · (have p0 := bC (b1) 0; have p1 := bC (b1) 1; have p2 := bC (b1) 2; have p3 := bC (b1) 3)
       (have q0 := bC (b2) 0; have q1 := bC (b2) 1; have q2 := bC (b2) 2; have q3 := bC (b2) 3; have q4 := bC (b2) 4; have q5 := bC (b2) 5; have q6 := bC (b2) 6)
       go_wp2_with (fail)
       refine (foldC _ Ax cx s hs A7 c7 _ w7 (Rd.Sl.ext hAr hE7) hs7 (by omega) hmr (FExt hFr hE7)).mono ?_; rintro e w8 ⟨A8, c8, rfl, hs8, hE8⟩
       clear p0 p1 p2 p3 q0 q1 q2 q3 q4 q5 q6
       replace b1 := hE8.blk b1
       replace b2 := hE8.blk b2
       replace b3 := hE8.blk b3
       replace hB := hE8.blk hB
       have hfl8 := foldS_len s (mergeR (cmpS s) parts)
       (have p0 := bC (b1) 0; have p1 := bC (b1) 1; have p2 := bC (b1) 2; have p3 := bC (b1) 3)
       (have q0 := bC (b2) 0; have q1 := bC (b2) 1; have q2 := bC (b2) 2; have q3 := bC (b2) 3; have q4 := bC (b2) 4; have q5 := bC (b2) 5; have q6 := bC (b2) 6)
       go_wp2_with (fail)
       refine (keep0 _ Ax cx s A8 c8 (foldS s (mergeR (cmpS s) parts)) w8 hs8 (by omega) (FExt (FExt hFr hE7) hE8)).mono ?_; rintro e w9 ⟨A9, c9, rfl, hs9, hE9⟩
       clear p0 p1 p2 p3 q0 q1 q2 q3 q4 q5 q6
       have hB9 := hE9.blk hB
       have b39 := hE9.blk b3
       (have q0 := bC (hE9.blk b2) 0; have q1 := bC (hE9.blk b2) 1; have q2 := bC (hE9.blk b2) 2; have q3 := bC (hE9.blk b2) 3; have q4 := bC (hE9.blk b2) 4; have q5 := bC (hE9.blk b2) 5; have q6 := bC (hE9.blk b2) 6)
       (have y0 := bC (hB9) 0; have yf0 := bF (hB9) 0; have y1 := bC (hB9) 1; have yf1 := bF (hB9) 1; have y2 := bC (hB9) 2; have yf2 := bF (hB9) 2)
       (have z0 := bC (b39) 0; have zf0 := bF (b39) 0; have z1 := bC (b39) 1; have zf1 := bF (b39) 1; have z2 := bC (b39) 2; have zf2 := bF (b39) 2)
       have hxy : ¬ x + 1 + 1 = y := by omega
       have hyx' : ¬ y = x + 1 + 1 := by omega
       go_wp2_with (fail)
       have KY := kS1 w9 y 0 (.slice A9 (foldS s (mergeR (cmpS s) parts)).length c9)
       have s0 := bS (KY.blk hxy b39) 0 (.slice A9 (foldS s (mergeR (cmpS s) parts)).length c9)
       have s1 := bS s0 1 (.slice none 0 0)
       have s2 := bS s1 2 (.int .i64 n)
       (have e0 := bC (s2) 0; have e1 := bC (s2) 1; have e2 := bC (s2) 2)
       (try simp only [Exit.inBlock, Exit.then])
       refine bodyPost_ret (v := .tuple #[.agg #[.slice A9 (foldS s (mergeR (cmpS s) parts)).length c9, .slice none 0 0, .int .i64 n], .int .i64 0]) (by simp [results, Tryz.results49, go_sem, e0, e1, e2]) rfl ?_
       have K3 := ((kS1 (w9.setCell ⟨y, 0, none⟩ (.slice A9 (foldS s (mergeR (cmpS s) parts)).length c9)) (x + 1 + 1) 0 (.slice A9 (foldS s (mergeR (cmpS s) parts)).length c9)).trans (kS1 _ (x + 1 + 1) 1 (.slice none 0 0))).trans (kS1 _ (x + 1 + 1) 2 (.int .i64 n))
       have KA := KY.or K3
       exact ⟨A9, c9, n, rfl, (hs9.keep (KA.mono (fun j _ q => q.elim (fun q => .inr (.inr q)) (fun q => .inr (.inl q))))).narrow (by decide) (fun j _ q => .inl q), hE04.keepNew (((hE47.post hE8).post hE9).or KA) (fun j q => by rcases q with q | q | q <;> omega)⟩
end K71
namespace P8
open KB K1 K17 P5 P6 K35 K38 K54 K57 K58
def Has (D : Dsk) (n : ByteArray) (f : FileM) : Prop := ∃ i, getA n D.M = some i ∧ D.files[i]? = some f
structure Holds (D : Dsk) (s : Sch) (lg : List Int) (ps : List (Int × List Row)) (all : List Int) : Prop where
 srt : SrtA D.M
 idx : ∀ p ∈ D.M, p.2 < D.files.length
 inj : ∀ p ∈ D.M, ∀ q ∈ D.M, p.2 = q.2 → p.1 = q.1
 log_ : Has D logS (lg, lg.length)
 part : ∀ p ∈ ps, Has D (nameS p.1.toNat) (partB s p.2, (partB s p.2).length)
 only : ∀ n ∈ D.M.map (·.1), n ∈ stays all
 rng : ∀ n ∈ all, 0 ≤ n ∧ n < 100
 sub : ∀ p ∈ ps, p.1 ∈ all
def wroteD (D : Dsk) (n : ByteArray) (b : List Int) (li : Nat) (lg : List Int) : Dsk :=
 { D with steps := D.steps + 6, lim := D.lim + 8, files := (D.files ++ [((b, (b.length : Int)) : FileM)]).set li (lg, lg.length), M := putA n D.files.length D.M, clean := true }
def removedD (D : Dsk) (n : ByteArray) : Dsk := { D with steps := D.steps + 1, lim := D.lim + 2, M := delA n D.M, clean := false }
theorem get_lt {D : Dsk} {s : Sch} {lg : List Int} {ps : List (Int × List Row)} {all : List Int} (h : Holds D s lg ps all) {n : ByteArray} {i : Nat} (hi : getA n D.M = some i) : i < D.files.length := h.idx _ (getA_mem hi)
theorem nameS_inj' {a b : Int} (ha : 0 ≤ a ∧ a < 100) (hb : 0 ≤ b ∧ b < 100) (h : nameS a.toNat = nameS b.toNat) : a = b := by
 have := nameS_inj a.toNat b.toNat (by omega) (by omega) h
 omega
theorem Holds.fresh {D : Dsk} {s : Sch} {lg : List Int} {ps : List (Int × List Row)} {all : List Int} (h : Holds D s lg ps all) {id : Nat} (hid : id < 100) (hn : (id : Int) ∉ all) : getA (nameS id) D.M = none := by
 refine getA_none.2 fun hm => ?_
 have := h.only _ hm
 rcases List.mem_cons.1 this with e | e
 · exact (nameS_log id).1 e
 · obtain ⟨k, hk, e⟩ := List.mem_map.1 e
   have := nameS_inj k.toNat id (by have := h.rng k hk; omega) hid e
   have h0 := h.rng k hk
   exact hn (by rw [show (id : Int) = k from by omega]; exact hk)
theorem Holds.noEmp {D : Dsk} {s : Sch} {lg : List Int} {ps : List (Int × List Row)} {all : List Int} (h : Holds D s lg ps all) : getA ⟨#[]⟩ D.M = none ∧ getA newS D.M = none := by
 constructor
 · refine getA_none.2 fun hm => ?_
   rcases List.mem_cons.1 (h.only _ hm) with e | e
   · exact absurd (congrArg ByteArray.size e) (by decide)
   · obtain ⟨k, hk, e⟩ := List.mem_map.1 e
     exact nameS_emp _ e
 · refine getA_none.2 fun hm => ?_
   rcases List.mem_cons.1 (h.only _ hm) with e | e
   · exact absurd (congrArg ByteArray.size e) (by decide)
   · obtain ⟨k, hk, e⟩ := List.mem_map.1 e
     exact (nameS_log k.toNat).2 e
theorem Holds.wrote {D : Dsk} {s : Sch} {lg : List Int} {ps : List (Int × List Row)} {all : List Int} (h : Holds D s lg ps all) (id : Nat) (hid : id < 100) (hn : (id : Int) ∉ all) (rows : List Row) (li : Nat) (hli : getA logS D.M = some li) (lg' : List Int) :
   Holds (wroteD D (nameS id) (partB s rows) li lg') s lg' (ps ++ [((id : Int), rows)]) (all ++ [(id : Int)]) := by
 have hll := get_lt h hli
 have hfr := h.fresh hid hn
 have hL : (wroteD D (nameS id) (partB s rows) li lg').files.length = D.files.length + 1 := by simp [wroteD]
 have hM : ∀ {p}, p ∈ (wroteD D (nameS id) (partB s rows) li lg').M → p = (nameS id, D.files.length) ∨ p ∈ D.M := fun hp => mem_putA hp
 have hold : ∀ n i, getA n D.M = some i → getA n (wroteD D (nameS id) (partB s rows) li lg').M = some i := fun n i hi => by
   show getA n (putA _ _ _) = _
   rw [getA_put, if_neg (fun e => by rw [e, hfr] at hi; cases hi)]; exact hi
 refine ⟨srt_put _ _ _ h.srt, fun p hp => ?_, fun p hp q hq e => ?_, ⟨li, hold _ _ hli, ?_⟩, fun p hp => ?_, fun n hnn => ?_, fun n hnn => ?_, fun p hp => ?_⟩
 · rw [hL]
   rcases hM hp with e | e
   · rw [e]; exact Nat.lt_succ_self _
   · have := h.idx p e; omega
 · rcases hM hp with e1 | e1 <;> rcases hM hq with e2 | e2
   · rw [e1, e2]
   · rw [e1] at e; have := h.idx q e2; simp at e; omega
   · rw [e2] at e; have := h.idx p e1; simp at e; omega
   · exact h.inj p e1 q e2 e
 · show ((D.files ++ [_]).set li _)[li]? = _
   rw [List.getElem?_set_self (by simp; omega)]
 · rcases List.mem_append.1 hp with q | q
   · obtain ⟨i, hi, hf⟩ := h.part p q
     have hr := h.rng _ (h.sub p q)
     have hne : li ≠ i := fun e => by
       have := h.inj _ (getA_mem hli) _ (getA_mem hi) e
       exact (nameS_log _).1 this.symm
     refine ⟨i, hold _ _ hi, ?_⟩
     show ((D.files ++ [_]).set li _)[i]? = _
     rw [List.getElem?_set_ne hne, List.getElem?_append_left (get_lt h hi)]; exact hf
   · simp at q; subst q
     refine ⟨D.files.length, ?_, ?_⟩
     · show getA _ (putA _ _ _) = _
       rw [Int.toNat_natCast, getA_put, if_pos rfl]
     · show ((D.files ++ [_]).set li _)[D.files.length]? = _
       rw [List.getElem?_set_ne (by omega), List.getElem?_append_right (Nat.le_refl _)]; simp
 · obtain ⟨p, hp, rfl⟩ := List.mem_map.1 hnn
   rcases hM hp with e | e
   · rw [e]; exact List.mem_cons_of_mem _ (List.mem_map.2 ⟨(id : Int), by simp, by simp⟩)
   · rcases List.mem_cons.1 (h.only _ (List.mem_map.2 ⟨p, e, rfl⟩)) with q | q
     · rw [q]; exact List.mem_cons_self ..
     · obtain ⟨k, hk, q⟩ := List.mem_map.1 q
       exact List.mem_cons_of_mem _ (List.mem_map.2 ⟨k, List.mem_append_left _ hk, q⟩)
 · rcases List.mem_append.1 hnn with q | q
   · exact h.rng n q
   · simp at q; omega
 · rcases List.mem_append.1 hp with q | q
   · exact List.mem_append_left _ (h.sub p q)
   · simp at q; subst q; simp
theorem Holds.removed {D : Dsk} {s : Sch} {lg : List Int} {ps : List (Int × List Row)} {all : List Int} (h : Holds D s lg ps all) (id : Int) (hid : id ∈ all) (hn : ∀ p ∈ ps, p.1 ≠ id) : Holds (removedD D (nameS id.toNat)) s lg ps (all.filter fun k => decide (k ≠ id)) := by
 have hM : ∀ {p}, p ∈ (removedD D (nameS id.toNat)).M → p ∈ D.M ∧ p.1 ≠ nameS id.toNat := fun hp => by
   have := List.mem_filter.1 hp
   exact ⟨this.1, by simpa using this.2⟩
 have hold : ∀ n i, n ≠ nameS id.toNat → getA n D.M = some i → getA n (removedD D (nameS id.toNat)).M = some i := fun n i hne hi => by
   show getA n (delA _ _) = _
   rw [getA_del, if_neg hne]; exact hi
 obtain ⟨li, hli, hlf⟩ := h.log_
 refine ⟨srt_del _ _ h.srt, fun p hp => h.idx p (hM hp).1, fun p hp q hq e => h.inj p (hM hp).1 q (hM hq).1 e, ⟨li, hold _ _ (fun e => (nameS_log _).1 e.symm) hli, hlf⟩, fun p hp => ?_, fun n hnn => ?_, fun n hnn => h.rng n (List.mem_filter.1 hnn).1, fun p hp => List.mem_filter.2 ⟨h.sub p hp, by simpa using hn p hp⟩⟩
 · obtain ⟨i, hi, hf⟩ := h.part p hp
   exact ⟨i, hold _ _ (fun e => hn p hp (nameS_inj' (h.rng _ (h.sub p hp)) (h.rng _ hid) e)) hi, hf⟩
 · obtain ⟨p, hp, rfl⟩ := List.mem_map.1 hnn
   have h2 := hM hp
   rcases List.mem_cons.1 (h.only _ (List.mem_map.2 ⟨p, h2.1, rfl⟩)) with q | q
   · rw [q]; exact List.mem_cons_self ..
   · obtain ⟨k, hk, q⟩ := List.mem_map.1 q
     refine List.mem_cons_of_mem _ (List.mem_map.2 ⟨k, List.mem_filter.2 ⟨hk, ?_⟩, q⟩)
     simp only [ne_eq, decide_not, Bool.not_eq_eq_eq_not, Bool.not_true, decide_eq_false_iff_not]
     intro e; subst e; exact h2.2 q.symm
theorem Holds.mono {D : Dsk} {s : Sch} {lg : List Int} {ps ps' : List (Int × List Row)} {all : List Int} (h : Holds D s lg ps all) (hs : ∀ p ∈ ps', p ∈ ps) : Holds D s lg ps' all :=
 ⟨h.srt, h.idx, h.inj, h.log_, fun p hp => h.part p (hs p hp), h.only, h.rng, fun p hp => h.sub p (hs p hp)⟩
/-! ### room -/
theorem total_le (f : FileM → Nat) (c : Nat) : ∀ l : List (ByteArray × FileM), (∀ p ∈ l, f p.2 ≤ c) → total f l ≤ l.length * c
 | [], _ => by simp [total]
 | p :: l, h => by
   have ih := total_le f c l (fun q hq => h q (List.mem_cons_of_mem _ hq))
   have h0 := h p (List.mem_cons_self ..)
   simp only [total, List.map_cons, List.sum_cons, List.length_cons, Nat.succ_mul] at ih ⊢
   omega
structure Room (D : Dsk) (k c : Nat) : Prop where
 quota : D.quota = 1048576
 names : D.M.length ≤ k
 files : ∀ f ∈ D.files, f.1.length ≤ c
 lim : D.lim ≤ 40 * k
theorem Room.used {D : Dsk} {k c : Nat} (h : Room D k c) : used D.fs ≤ k * c := by
 refine Nat.le_trans (total_le (fun f => f.1.length) c D.fs (fun p hp => ?_)) ?_
 · obtain ⟨q, hq, rfl⟩ := List.mem_map.1 hp
   show (D.files.getD q.2 ([], 0)).1.length ≤ c
   rw [List.getD_eq_getElem?_getD]
   cases e : D.files[q.2]? with
   | none => exact Nat.zero_le _
   | some f => exact h.files f (List.mem_of_getElem? e)
 · have : D.fs.length = D.M.length := List.length_map ..
   rw [this]; exact Nat.mul_le_mul_right _ h.names
theorem put_le {β : Type} (n : ByteArray) (x : β) : ∀ l : List (ByteArray × β), (putA n x l).length ≤ l.length + 1
 | [] => by simp [putA]
 | (m, y) :: l => by
   have ih := put_le n x l
   rw [putA]
   split
   · simp
   · split
     · simp
     · simp; exact ih
theorem Room.wrote {D : Dsk} {k c : Nat} (h : Room D k c) (n : ByteArray) (b : List Int) (li : Nat) (lg : List Int) (hb : b.length ≤ c) (hl : lg.length ≤ c) : Room (wroteD D n b li lg) (k + 1) c := by
 refine ⟨h.quota, Nat.le_trans (put_le _ _ _) (Nat.succ_le_succ h.names), fun f hf => ?_, (by show D.lim + 8 ≤ _; have := h.lim; omega)⟩
 rcases List.mem_or_eq_of_mem_set hf with e | e
 · rcases List.mem_append.1 e with q | q
   · exact h.files f q
   · simp at q; rw [q]; exact hb
 · rw [e]; exact hl
theorem Room.removed {D : Dsk} {k c : Nat} (h : Room D k c) (n : ByteArray) (hl : D.lim + 2 ≤ 40 * k) : Room (removedD D n) k c :=
 ⟨h.quota, Nat.le_trans (del_length _ _) h.names, h.files, hl⟩
end P8
namespace K72
open Go Go.RowKit
open KB KB2 K1 K2 K3 K5 K7 P2 K35 K46 K69 K70 K71
open K19 (PartAt PartAt.keep PartAt.ext)
structure StM where
 s : Sch
 ids : List Int
 next : Nat
 parts : List (List Row)
 D : Dsk
abbrev SF (F : Nat → Prop) (tg dg mg : Nat) : Nat → Prop := DF (fun k => F k ∨ k = tg) dg mg
def SB (tg dg mg : Nat) (pv : Value) : Nat → Prop := fun k => k = tg ∨ k = dg ∨ k = mg ∨ pv.ownBlock = some k
abbrev stCells (dg : Nat) (A : Option Addr) (c : Nat) (s : Sch) (Ai : Option Addr) (ni ci : Nat) (next : Nat) (pv : Value) : Array Value :=
 #[.pointer (some ⟨dg, 0, none⟩), .slice A s.types.length c, .int .i64 s.keys, .int .i64 s.mode, .int .i64 s.grain, .slice Ai ni ci, .int .i64 next, pv, .bool false]
structure StoreAt (F : Nat → Prop) (w : World) (tg dg mg : Nat) (pv : Value) (S : StM) : Prop where
 ft : ¬ F tg
 td : ¬ tg = dg
 tm : ¬ tg = mg
 disk : DiskAt (Fv (fun k => F k ∨ k = tg) pv) w dg mg S.D
 parts : (rdPart S.s).Own (SF F tg dg mg) 0 88 w pv S.parts
 far : ∀ k, pv.ownBlock = some k → ¬ SF F tg dg mg k
 at_ : ∃ A c Ai ci, w.heap[tg]? = some (.cells (stCells dg A c S.s Ai S.ids.length ci S.next pv) 85 (0, 0)) ∧ SchAt (Fv (SF F tg dg mg) pv) w A c S.s ∧ (rdInt .i64).Sl (Fv (SF F tg dg mg) pv) w Ai ci S.ids
theorem elPart : El Tryz.prog 83 88 1 8 := El.mk (z := .pointer none) Tryz.underlying83 (by kernel_rfl) rfl (by decide)
theorem StoreAt.ext {F : Nat → Prop} {w w' : World} {tg dg mg : Nat} {pv : Value} {S : StM} (h : StoreAt F w tg dg mg pv S) (k : Ext w w') : StoreAt F w' tg dg mg pv S := by
 obtain ⟨ft, td, tm, hd, hp, hf, A, c, Ai, ci, hb, h1, h2⟩ := h
 exact ⟨ft, td, tm, hd.ext k, hp.ext k, hf, A, c, Ai, ci, k.blk hb, Rd.Sl.ext h1 k, h2.ext k⟩
theorem StoreAt.keep {F G : Nat → Prop} {w w' : World} {tg dg mg : Nat} {pv : Value} {S : StM} (h : StoreAt F w tg dg mg pv S) (k : Keep G w w') (hG : ∀ i, G i → F i) (hp : ∀ i, pv.ownBlock = some i → ¬ G i) : StoreAt F w' tg dg mg pv S := by
 obtain ⟨ft, td, tm, hd, hpp, hf, A, c, Ai, ci, hb, h1, h2⟩ := h
 have hge := hpp.ge
 have k1 : Keep (Fv (SF F tg dg mg) pv) w w' := k.mono (fun i _ q => .inl (.inl (.inl (hG i q))))
 exact ⟨ft, td, tm, hd.keep (k.mono (fun i _ q => .inl (.inl (hG i q)))), hpp.keep2 k1 (fun g hg => k.block g (hge g hg).2 (hp g hg)), hf, A, c, Ai, ci, k.blk (fun q => ft (hG tg q)) hb, Rd.Sl.keep h1 k1, h2.keep k1⟩
theorem StoreAt.sl {F : Nat → Prop} {w : World} {tg dg mg : Nat} {pv : Value} {S : StM} (h : StoreAt F w tg dg mg pv S) : ∃ A c, pv = .slice A S.parts.length c ∧ (rdPart S.s).Sl (SF F tg dg mg) w A c S.parts := by
 obtain ⟨xs, ho, hC⟩ := h.parts
 rcases ho.2 with ⟨he, hn⟩ | ⟨g, cap, cur, he, hb, hg, hnc, hcm, hcs, htake⟩
 · have : S.parts = [] := List.eq_nil_of_length_eq_zero hn
   rw [this] at hn ⊢
   exact ⟨none, 0, by rw [he]; rfl, Rd.Sl.nil0 _ _ _⟩
 · have hfar := h.far
   rw [he] at hfar hC ho ⊢
   refine ⟨some ⟨g, 0, none⟩, cap, rfl, hnc, hcm, (fun h => by cases h), fun k x hk => ⟨g, 0, rfl, hfar g rfl, _, (rdPart S.s).narrow (fun k _ hk => .inl hk) (hC k x hk), fun j u hj => ?_⟩⟩
   have hj' : j < (rdPart S.s).sz := by have := (List.getElem?_eq_some_iff.1 hj).1; simp at this; omega
   have := ho.cells (g := g) rfl (k * (rdPart S.s).sz + j) u (by rw [List.getElem?_take, if_pos hj', List.getElem?_drop] at hj; exact hj)
   rw [Addr.add_lit] at this
   rw [← this]; congr 2; omega
theorem SFlt {F : Nat → Prop} {w : World} {tg dg mg : Nat} {pv : Value} {S : StM} (h : StoreAt F w tg dg mg pv S) (hF : ∀ k, F k → k < w.heap.size) : ∀ k, SF F tg dg mg k → k < w.heap.size := by
 obtain ⟨A, c, Ai, ci, hb, _⟩ := h.at_
 have hd := h.disk.lt
 intro k q
 rcases q with (q | q) | q | q
 · exact hF k q
 · rw [q]; exact blk_lt hb
 · rw [q]; exact hd.1
 · rw [q]; exact hd.2
theorem sizesC (F : Nat → Prop) (tg dg mg : Nat) (pv : Value) (S : StM) (w : World) (h : StoreAt F w tg dg mg pv S) (hn : S.parts.length ≤ 1000) (hF : ∀ k, F k → k < w.heap.size) (G : Nat → Prop) (hG : ∀ k, G k → k < w.heap.size) :
   Calls Tryz.prog 27 #[PX tg] w fun e w' => ∃ A c, e = .returned (.slice A S.parts.length c) ∧ (rdInt .i64).Sl G w' A c (S.parts.map fun l => (l.length : Int)) ∧ Ext w w' := by
 obtain ⟨A, c, hpv, hsl⟩ := h.sl
 obtain ⟨A1, c1, Ai, ci, hb, _, _⟩ := h.at_
 rw [hpv] at hb
 have p7 := bC hb 7
 go_enter Tryz.func27, Tryz.ntmps27
 go_wp2_with (fail)
 go_loopw [3, 11] (fun v i wr => ∃ k : Nat, i = .int .i64 k ∧ k ≤ S.parts.length ∧ (rdInt .i64).Own G w.heap.size 3 wr v ((S.parts.take k).map fun l => (l.length : Int)) ∧ Ext w wr) (fun _ i _ => S.parts.length - (intOf i).toNat)
 case atStart => exact ⟨0, by go_num, Nat.zero_le _, Rd.Own.nil _ _ _ _ _, Ext.refl _⟩
 case round =>
   obtain ⟨k, rfl, hkl, hown, hE⟩ := hrel
   by_cases hlt : k < S.parts.length
   · obtain ⟨b, o, g, rfl, hc, hpg⟩ := part_get (hsl.ext hE) hlt
     have HT : As ((S.parts.take (k + 1)).map (fun l => (l.length : Int)) = (S.parts.take k).map (fun l => (l.length : Int)) ++ [(S.parts[k].length : Int)]) := ⟨by rw [take_snoc S.parts hlt, List.map_append]; rfl⟩
     have HTL : As (((S.parts.take k).map (fun l => (l.length : Int))).length ≤ 1000) := ⟨by rw [List.length_map, List.length_take]; omega⟩
     clear h hsl
     go_wp2_with (first | (go_at_call 58; refine (K20.rowsPC _ g S.s S.parts[k] wr hpg).mono ?_; rintro e w2 ⟨rfl, rfl⟩) | (at_builtin; (refine wpList_push rfl (.tmp 15) (.tmp 18) 25 rfl (rdInt .i64) elInt rfl (hown.ext ((Ext.refl wr).alloc _)) rfl (heap_alloc_new wr _) (y := (S.parts[k].length : Int)) rfl (by have := HTL.out; omega) (by have := HTL.out; unfold maxLen; omega) (by have := hE.size; simp; omega) (hE.alloc _) ?_); intro v' w3 hown3 hg3 hE3))
     rw [← HT.out] at hown3
     go_roundw
     case rel => exact ⟨k + 1, by go_num, by omega, hown3, hE3⟩
     case measure => simp [intOf] <;> omega
   · obtain rfl : k = S.parts.length := by omega
     rw [List.take_length] at hown
     obtain ⟨A', c', rfl, hs'⟩ := hown.shut hG
     go_wp2
     go_ret
     exact ⟨A', c', by simp, hs', hE⟩
theorem queryC (F : Nat → Prop) (tg dg mg : Nat) (pv : Value) (S : StM) (hs : S.s.Ok) (fin : Bool) (w : World) (h : StoreAt F w tg dg mg pv S) (hn : S.parts.length ≤ 1000) (hN : S.parts.flatten.length ≤ 100000) (ho : ∀ x ∈ S.parts, Srt (cmpS S.s) x ∧ ∀ r ∈ x, RowOk S.s r) (hF : ∀ k, F k → k < w.heap.size) :
   Calls Tryz.prog 21 #[PX tg, q0V fin] w fun e w' => ∃ (A' : Option Addr) (c' : Nat) (n : Int), e = .returned (.tuple #[.agg #[.slice A' (told S.s fin S.parts).length c', .slice none 0 0, .int .i64 n], .int .i64 0]) ∧ rdRow.Sl F w' A' c' (told S.s fin S.parts) ∧ Ext w w' := by
 obtain ⟨x, hx⟩ : ∃ x, w.heap.size = x := ⟨_, rfl⟩
 obtain ⟨Ap, cp, hpv, hsl⟩ := h.sl
 have hlt := SFlt h hF
 obtain ⟨A1, c1, Ai, ci, hb, hA, _⟩ := h.at_
 rw [hpv] at hb
 have hE1 := ((Ext.refl w).alloc (.cells #[.bool false, .bool false, .slice none 0 0, .slice none 0 0, .bool fin, .slice none 0 0, .slice none 0 0] 75)).alloc (.cells #[.slice none 0 0, .slice none 0 0, .int .i64 0] 67)
 have B1 := bO2 (o' := .cells #[.slice none 0 0, .slice none 0 0, .int .i64 0] 67) (bN w (.cells #[.bool false, .bool false, .slice none 0 0, .slice none 0 0, .bool fin, .slice none 0 0, .slice none 0 0] 75))
 have B2 := bN (w.alloc (.cells #[.bool false, .bool false, .slice none 0 0, .slice none 0 0, .bool fin, .slice none 0 0, .slice none 0 0] 75)) (.cells #[.slice none 0 0, .slice none 0 0, .int .i64 0] 67)
 rw [World.size_alloc] at B2
 have htl := blk_lt hb
 go_enter Tryz.func21, Tryz.ntmps21
 go_wp2_with (fail)
 generalize (w.alloc (.cells #[.bool false, .bool false, .slice none 0 0, .slice none 0 0, .bool fin, .slice none 0 0, .slice none 0 0] 75)).alloc (.cells #[.slice none 0 0, .slice none 0 0, .int .i64 0] 67) = w1 at *
 rw [hx] at B1 B2 htl hlt
 have hb1 := hE1.blk hb
 have hF1 : ∀ k, (F k ∨ k = x + 1) → k < w1.heap.size := fun k q => q.elim (fun q => by have := hF k q; have := hE1.size; omega) (fun q => by have := blk_lt B2; omega)
 have hA1 : SchAt (fun k => F k ∨ k = x + 1) w1 A1 c1 S.s := Rd.Sl.ext (Rd.Sl.narrow Nat.one_pos hA (fun k hk q => q.elim (fun q => .inl (.inl (.inl q))) (fun q => by omega))) hE1
 have hp1 : (rdPart S.s).Sl (fun k => F k ∨ k = x + 1) w1 Ap cp S.parts := Rd.Sl.ext (Rd.Sl.narrow Nat.one_pos hsl (fun k hk q => q.elim (fun q => .inl (.inl q)) (fun q => by omega))) hE1
 have hrun := fun W (hW : Ext w1 W) => runC _ A1 c1 S.s hs Ap cp S.parts fin W (Rd.Sl.ext hA1 hW) (hp1.ext hW) hn hN ho (FExt hF1 hW)
 (have p0 := bC (hb1) 0; have p1 := bC (hb1) 1; have p2 := bC (hb1) 2; have p3 := bC (hb1) 3; have p4 := bC (hb1) 4; have p5 := bC (hb1) 5; have p6 := bC (hb1) 6; have p7 := bC (hb1) 7; have p8 := bC (hb1) 8)
 (have q0 := bC (B1) 0; have q1 := bC (B1) 1; have q2 := bC (B1) 2; have q3 := bC (B1) 3; have q4 := bC (B1) 4; have q5 := bC (B1) 5; have q6 := bC (B1) 6)
 (have r0 := bC (B2) 0; have rf0 := bF (B2) 0; have r1 := bC (B2) 1; have rf1 := bF (B2) 1; have r2 := bC (B2) 2; have rf2 := bF (B2) 2)
 clear h hsl hA
 go_region_law (first | (go_simp; go_at_call 49; with_reducible refine Calls.mono (hrun _ ?_) ?_; exact XE; rintro e w2 ⟨A2, c2, n, rfl, hs2, hE2⟩; have hx2 := Ext.trans (a := w1) XE hE2; (have z0 := bC (hx2.blk B2) 0; have zf0 := bF (hx2.blk B2) 0; have z1 := bC (hx2.blk B2) 1; have zf1 := bF (hx2.blk B2) 1; have z2 := bC (hx2.blk B2) 2; have zf2 := bF (hx2.blk B2) 2); dsimp only))
 all_goals
   (try simp only [Exit.inBlock, Exit.then])
   go_wp2_with (fail)
   have s0 := bS (hx2.blk B2) 0 (.slice A2 (told S.s fin S.parts).length c2)
   have s1 := bS s0 1 (.slice none 0 0)
   have s2 := bS s1 2 (.int .i64 n)
   have K3 := ((kS1 w2 (x + 1) 0 (.slice A2 (told S.s fin S.parts).length c2)).trans (kS1 _ (x + 1) 1 (.slice none 0 0))).trans (kS1 _ (x + 1) 2 (.int .i64 n))
   (have e0 := bC (s2) 0; have e1 := bC (s2) 1; have e2 := bC (s2) 2)
   (try simp only [Exit.inBlock, Exit.then])
   refine bodyPost_ret (v := .tuple #[.agg #[.slice A2 (told S.s fin S.parts).length c2, .slice none 0 0, .int .i64 n], .int .i64 0]) (by simp [results, Tryz.results21, go_sem, e0, e1, e2]) rfl ?_
   refine ⟨A2, c2, n, rfl, ?_, ?_⟩
   · first | exact (hs2.keep (K3.mono (fun _ _ q => .inr q))).narrow (by decide) (fun j _ q => .inl q) | exact ((hs2.keep (K3.mono (fun _ _ q => .inr q))).narrow (by decide) (fun j _ q => .inl q)).ext ((Ext.refl _).drew)
   · first | exact (hE1.trans hx2).keepNew K3 (fun j q => by omega) | exact ((hE1.trans hx2).keepNew K3 (fun j q => by omega)).drew
end K72
namespace K73
open Go Go.RowKit
open KB KB2 K1 K2 K3 K5 K6 K7 P2 P5 K31 K35 K38 K43 K44 K46 K54 K72
open K70 (PX)
theorem endsC (tg : Nat) (v0 v1 v2 v3 v4 v5 v6 v7 : Value) (w : World) (hb : w.heap[tg]? = some (.cells #[v0, v1, v2, v3, v4, v5, v6, v7, .bool false] 85 (0, 0))) :
   Calls Tryz.prog 75 #[PX tg, .int .i64 0] w fun e w' => e = .returned (.int .i64 0) ∧ w'.heap[tg]? = some (.cells #[v0, v1, v2, v3, v4, v5, v6, v7, .bool false] 85 (0, 0)) ∧ Keep (fun k => k = tg) w w' := by
 have p8 := bC hb 8
 have pf8 := bF hb 8
 go_enter Tryz.func75, Tryz.ntmps75
 go_wp2
 go_ret
 exact ⟨rfl, bS hb 8 _, kS1 _ _ _ _⟩
theorem ends_same (tg : Nat) (v0 v1 v2 v3 v4 v5 v6 v7 : Value) (w : World) (hb : w.heap[tg]? = some (.cells #[v0, v1, v2, v3, v4, v5, v6, v7, .bool false] 85 (0, 0))) :
   Calls Tryz.prog 75 #[PX tg, .int .i64 0] w fun e w' => e = .returned (.int .i64 0) ∧ w'.heap[tg]? = some (.cells #[v0, v1, v2, v3, v4, v5, v6, v7, .bool false] 85 (0, 0)) ∧ Keep (fun k => k = tg) w w' := endsC tg v0 v1 v2 v3 v4 v5 v6 v7 w hb
theorem wr1C (F : Nat → Prop) (tg dg mg : Nat) (D : Dsk) (w : World) (h : DiskAt F w dg mg D) (hl : D.lim + 1 ≤ 100000) (n : ByteArray) (hn20 : n.size ≤ 20) (i : Nat) (hi : getA n D.M = some i) (fb : List Int) (fs : Int) (hf : D.files[i]? = some (fb, fs)) (hF : ∀ k, F k → k < w.heap.size)
   (xt xn : Nat) (hxt : w.cell? ⟨xt, 0, none⟩ = some (PX tg)) (hxn : w.cell? ⟨xn, 0, none⟩ = some (.string n)) (ht : w.cell? ⟨tg, 0, none⟩ = some (PX dg)) :
   Calls Tryz.prog 70 #[PX xt, PX xn] w fun e w' => e = .returned (.int .i64 0) ∧ DiskAt F w' dg mg { D with steps := D.steps + 1, lim := D.lim + 1, files := D.files.set i (fb, fb.length) } ∧ Keep (Two' dg mg) w w' := by
 have hsy := fun W (hW : Ext w W) => syncC F dg mg D W (h.ext hW) hl n hn20 i hi fb fs hf (FExt hF hW)
 have keep : ∀ w', Ext w w' → Ext w w' ∧ w'.cell? ⟨xt, 0, none⟩ = some (PX tg) ∧ w'.cell? ⟨xn, 0, none⟩ = some (.string n) ∧ w'.cell? ⟨tg, 0, none⟩ = some (PX dg) := fun w' k => ⟨k, k.cell hxt, k.cell hxn, k.cell ht⟩
 go_enter Tryz.func70, Tryz.ntmps70
 go_wp2_with (fail)
 go_still_tail 5, (by kernel_rfl)
 change wpList _ _ _ _ _ w.drew
 go_wp2_with (first | (go_at_call 71; with_reducible refine Calls.mono (hsy _ ?_) ?_; exact XE; rintro e w1 ⟨rfl, h1, k1⟩))
 go_ret
 exact ⟨rfl, h1, k1.pre XE⟩
theorem wr2C (F : Nat → Prop) (tg dg mg : Nat) (D : Dsk) (w : World) (h : DiskAt F w dg mg D) (hl : D.lim + 4 ≤ 100000) (hF : ∀ k, F k → k < w.heap.size) (v0 v1 v2 v3 v4 v5 v6 : Value) (b : List Int)
   (hput : ∀ W, Ext w W → Calls Tryz.prog 89 #[.agg #[v0, v1, v2, v3, v4, v5, v6]] W fun e w' => ∃ A c, e = .returned (.tuple #[.slice A b.length c, .bool true]) ∧ rdU8.Sl (DF F dg mg) w' A c b ∧ Ext W w')
   (i : Nat) (hi : getA logS D.M = some i) (fb : List Int) (fs : Int) (hf : D.files[i]? = some (fb, fs)) (hu : used D.fs + b.length ≤ D.quota) (hsum : fb.length + b.length ≤ 10000000)
   (xt xr : Nat) (hxt : w.cell? ⟨xt, 0, none⟩ = some (PX tg)) (hxr : w.heap[xr]? = some (.cells #[v0, v1, v2, v3, v4, v5, v6] 92 (0, 0))) (ht : w.cell? ⟨tg, 0, none⟩ = some (PX dg)) :
   Calls Tryz.prog 73 #[PX xt, PX xr] w fun e w' => e = .returned (.int .i64 0) ∧ DiskAt F w' dg mg { D with steps := D.steps + 2, lim := D.lim + 2, files := D.files.set i (fb ++ b, (fb ++ b).length) } ∧ Keep (Two' dg mg) w w' := by
 have hlg := fun W (hW : Ext w W) => logC F dg mg D W (h.ext hW) hl (FExt hF hW) v0 v1 v2 v3 v4 v5 v6 b (fun W' hW' => hput W' (hW.trans hW')) i hi fb fs hf hu hsum
 (have p0 := bC (hxr) 0; have p1 := bC (hxr) 1; have p2 := bC (hxr) 2; have p3 := bC (hxr) 3; have p4 := bC (hxr) 4; have p5 := bC (hxr) 5; have p6 := bC (hxr) 6)
 go_enter Tryz.func73, Tryz.ntmps73
 go_wp2_with (fail)
 go_still_tail 5, (by kernel_rfl)
 change wpList _ _ _ _ _ w.drew
 go_wp2_with (first | (go_at_call 74; with_reducible refine Calls.mono (hlg _ ?_) ?_; exact XE; rintro e w1 ⟨rfl, h1, k1⟩))
 go_ret
 exact ⟨rfl, h1, k1.pre XE⟩
end K73
end Go.Proofs.YtbjeejimedhniaaGreatDoor
