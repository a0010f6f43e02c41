/- Contracts of the program's functions, as the walks of the law use them. -/
import Derived.Test.YtbjeejimedhniaaGreatDoorD11
import Derived.Test.YtbjeejimedhniaaGreatDoorD3
import Derived.Test.YtbjeejimedhniaaGreatDoorD10
set_option linter.unusedVariables false
set_option linter.unusedSimpArgs false
set_option maxRecDepth 100000
set_option maxHeartbeats 2000000
namespace Go.Proofs.YtbjeejimedhniaaGreatDoor
namespace K65
open Go Go.RowKit
open KB KB2 K1 K2 K3 K5 P1 P2 K62 K63 K64
theorem srcs_snoc (A : List (List Row)) (x : List Row) : srcs (A ++ [x]) = if x = [] then srcs A else srcs A ++ [(x, A.length)] := by
 rw [srcs_split]
 by_cases h : x = [] <;> simp [h]
theorem srcs_len (A : List (List Row)) : (srcs A).length ≤ A.length := by
 rw [srcs]
 refine Nat.le_trans (List.length_filter_le _ _) ?_
 simp
theorem down_perm {lt : SrcM → SrcM → Bool} {n : Nat} : ∀ f i (l : List SrcM), n ≤ l.length → (i < n ∨ n = 0) → (downF lt ([], 0) n f i l).Perm l := by
 intro f
 induction f with
 | zero => intro i l _ _; exact .refl _
 | succ f ih =>
   intro i l hn hi
   rw [downF]
   split
   · rename_i h1
     have hj : (if 2 * i + 2 < n ∧ lt (l.getD (2 * i + 2) ([], 0)) (l.getD (2 * i + 1) ([], 0)) = true then 2 * i + 2 else 2 * i + 1) < n := by split <;> omega
     simp only
     generalize (if 2 * i + 2 < n ∧ lt (l.getD (2 * i + 2) ([], 0)) (l.getD (2 * i + 1) ([], 0)) = true then 2 * i + 2 else 2 * i + 1) = j at *
     split
     · exact (ih _ _ (by rw [sw_length]; exact hn) (.inl hj)).trans (sw_perm _ _ _ _ (by omega) (by omega))
     · exact .refl _
   · exact .refl _
theorem init_perm {lt : SrcM → SrcM → Bool} (n : Nat) : ∀ k (l : List SrcM), n = l.length → k ≤ n → (initF lt ([], 0) n k l).Perm l := by
 intro k
 induction k with
 | zero => intro l _ _; exact .refl _
 | succ k ih =>
   intro l hn hk
   rw [initF]
   exact (ih _ (by rw [downF_length]; exact hn) (by omega)).trans (down_perm _ _ _ (by omega) (.inl (by omega)))
def left (l : List SrcM) : Nat := (l.map (fun x => x.1.length)).sum
theorem left_perm {l m : List SrcM} (h : l.Perm m) : left l = left m := (h.map _).sum_nat
theorem left_cons (x : SrcM) (l : List SrcM) : left (x :: l) = x.1.length + left l := by simp [left]
theorem pop_perm {c : Row → Row → Int} (x : SrcM) (t : List SrcM) : (popF c (x :: t)).Perm t := by
 have h1 := down_perm (lt := ltS c) (n := t.length) (t.length + 1) 0 (sw ([], 0) (x :: t) 0 t.length) (by rw [sw_length]; simp) (by omega)
 have h2 := sw_perm ([], 0) (x :: t) 0 t.length (by simp) (by simp)
 have h3 : (sw ([], 0) (x :: t) 0 t.length).getD t.length ([], 0) = x := by
   rw [sw_get _ _ _ _ _ (by simp) (by simp), if_pos rfl]; rfl
 have h4 : ∀ f i (l : List SrcM), t.length ≤ l.length → (i < t.length ∨ t.length = 0) → ∀ m, t.length ≤ m → (downF (ltS c) ([], 0) t.length f i l).getD m ([], 0) = l.getD m ([], 0) := by
   intro f
   induction f with
   | zero => intro i l _ _ m _; rfl
   | succ f ih =>
     intro i l hn hi m hm
     rw [downF]
     split
     · rename_i h1
       have hj : (if 2 * i + 2 < t.length ∧ ltS c (l.getD (2 * i + 2) ([], 0)) (l.getD (2 * i + 1) ([], 0)) = true then 2 * i + 2 else 2 * i + 1) < t.length := by split <;> omega
       simp only
       generalize (if 2 * i + 2 < t.length ∧ ltS c (l.getD (2 * i + 2) ([], 0)) (l.getD (2 * i + 1) ([], 0)) = true then 2 * i + 2 else 2 * i + 1) = j at *
       split
       · rw [ih _ _ (by rw [sw_length]; exact hn) (.inl hj) m hm, sw_get _ _ _ _ _ (by omega) (by omega), if_neg (by omega), if_neg (by omega)]
       · rfl
     · rfl
 show ((downF (ltS c) ([], 0) t.length (t.length + 1) 0 (sw ([], 0) (x :: t) 0 t.length)).take t.length).Perm t
 refine take_perm (x := x) ([], 0) (by rw [downF_length, sw_length]; rfl) ?_ (h1.trans h2)
 rw [h4 _ _ _ (by rw [sw_length]; simp) (by omega) _ (Nat.le_refl _), h3]
theorem fix_perm {c : Row → Row → Int} (l : List SrcM) (h : 0 < l.length) : (fixF c l).Perm l := down_perm _ _ _ (Nat.le_refl _) (.inl h)
theorem okTo_all {s : Sch} {l : List SrcM} (h : ∀ x ∈ l, SrcOk s x) : OkTo s l.length l := fun m hm => by
 rw [List.getD_eq_getElem?_getD, List.getElem?_eq_getElem hm]; exact h _ (List.getElem_mem _)
theorem heap_next {F : Nat → Prop} {w : World} {qg lg cap : Nat} {Ax : Option Addr} {cx : Nat} {s : Sch} {r : Row} {rs : List Row} {i : Nat} {t : List SrcM} (h : HeapAt F w qg lg cap Ax cx s ((r :: rs, i) :: t)) {A : Option Addr} {c : Nat} (hA : rdRow.Sl (Fv (fun k => F k ∨ k = qg) (.slice (some ⟨lg, 0, none⟩) (t.length + 1) cap)) w A c rs) :
   HeapAt F (w.setCell ⟨lg, 0, none⟩ (.slice A rs.length c)) qg lg cap Ax cx s ((rs, i) :: t) ∧ Keep (fun k => k = lg) w (w.setCell ⟨lg, 0, none⟩ (.slice A rs.length c)) := by
 have K := kS1 w lg 0 (.slice A rs.length c)
 have ho := h.own.setj (i := 0) (j := 0) (by simp) (by decide) (u := .slice A rs.length c) (y := (rs, i)) (fun cs hcs => by
   obtain ⟨A', c', rfl, hs⟩ := hcs
   exact ⟨A, c, rfl, hA⟩)
 exact ⟨⟨K.blk h.ne h.blk, ho, h.ne, h.cp, Rd.Sl.keep h.sch (K.mono (fun _ _ q => .inr q))⟩, K⟩
theorem heap_keep {F G : Nat → Prop} {w w' : World} {qg lg cap : Nat} {Ax : Option Addr} {cx : Nat} {s : Sch} {l : List SrcM} (h : HeapAt F w qg lg cap Ax cx s l) (k : Keep G w w') (hG : ∀ i, G i → F i) (hq : ¬ G qg) (hg : ¬ G lg) : HeapAt F w' qg lg cap Ax cx s l :=
 ⟨k.blk hq h.blk, h.own.keep2 (k.mono (fun i _ q => .inl (.inl (hG i q)))) (fun i hi => by cases hi; exact k.block _ (h.own.ge lg rfl).2 hg), h.ne, h.cp, Rd.Sl.keep h.sch (k.mono (fun i _ q => .inl (.inl (hG i q))))⟩
theorem left_srcs (ls : List (List Row)) : left (srcs ls) = ls.flatten.length := by
 refine snoc_ind (P := fun ls => left (srcs ls) = ls.flatten.length) rfl (fun l x ih => ?_) ls
 rw [srcs_snoc]
 split
 · rename_i h; subst h; rw [ih]; simp
 · simp only [left, List.map_append, List.sum_append, List.map_cons, List.map_nil, List.sum_cons, List.sum_nil, List.flatten_append, List.length_append, List.flatten_cons, List.flatten_nil, List.append_nil] at ih ⊢
   omega
def slLen : Value → Nat
 | .slice _ n _ => n
 | _ => 0
theorem own_q {F : Nat → Prop} {w : World} {qg : Nat} {B : Nat} {v : Value} {l : List SrcM} (h : rdSrc.Own (fun k => F k ∨ k = qg) B 292 w v l) (hB : qg < B) (u : Value) : rdSrc.Own (fun k => F k ∨ k = qg) B 292 (w.setCell ⟨qg, 4, none⟩ u) v l :=
 h.keep2 ((kS1 w qg 4 u).mono (fun _ _ q => .inl (.inr q))) (fun g hg => (kS1 w qg 4 u).block g (h.ge g hg).2 (fun e => by have := (h.ge g hg).1; omega))
theorem own_len {α : Type} {R : Rd α} {F : Nat → Prop} {B : Nat} {e : TypeId} {w : World} {v : Value} {l : List α} (h : R.Own F B e w v l) : ∃ A c, v = .slice A l.length c ∧ l.length ≤ c ∧ (A = none → l = []) := by
 obtain ⟨xs, ho, _⟩ := h
 rcases ho.2 with ⟨rfl, hn⟩ | ⟨g, cap, cur, rfl, hb, hg, hnc, rest⟩
 · obtain rfl : l = [] := List.eq_nil_of_length_eq_zero hn
   exact ⟨none, 0, rfl, Nat.le_refl _, fun _ => rfl⟩
 · exact ⟨_, cap, rfl, hnc, fun q => by cases q⟩
theorem rowsC (F : Nat → Prop) (Ax : Option Addr) (cx : Nat) (s : Sch) (hs : s.Ok) (A : Option Addr) (c : Nat) (ls : List (List Row)) (w : World) (hA : SchAt F w Ax cx s) (hl : rdRows.Sl F w A c ls) (hn : ls.length ≤ 1000) (hN : ls.flatten.length ≤ 100000) (ho : ∀ x ∈ ls, ∀ r ∈ x, RowOk s r) (hF : ∀ k, F k → k < w.heap.size) :
   Calls Tryz.prog 115 #[schV Ax cx s, .slice A ls.length c] w fun e w' => ∃ A' c', e = .returned (.slice A' (mergeR (cmpS s) ls).length c') ∧ rdRow.Sl F w' A' c' (mergeR (cmpS s) ls) ∧ Ext w w' := by
 obtain ⟨x, hx⟩ : ∃ x, w.heap.size = x := ⟨_, rfl⟩
 have B1 := bN (w.alloc (.cells #[.slice Ax s.types.length cx, .int .i64 s.keys, .int .i64 s.mode, .int .i64 s.grain] 27)) (.cells #[.slice Ax s.types.length cx, .int .i64 s.keys, .int .i64 s.mode, .int .i64 s.grain, .slice none 0 0] 290)
 have hE1 := ((Ext.refl w).alloc (.cells #[.slice Ax s.types.length cx, .int .i64 s.keys, .int .i64 s.mode, .int .i64 s.grain] 27)).alloc (.cells #[.slice Ax s.types.length cx, .int .i64 s.keys, .int .i64 s.mode, .int .i64 s.grain, .slice none 0 0] 290)
 have hsz : ((w.alloc (.cells #[.slice Ax s.types.length cx, .int .i64 s.keys, .int .i64 s.mode, .int .i64 s.grain] 27)).alloc (.cells #[.slice Ax s.types.length cx, .int .i64 s.keys, .int .i64 s.mode, .int .i64 s.grain, .slice none 0 0] 290)).heap.size = x + 2 := by simp [hx]
 rw [World.size_alloc] at B1
 go_enter Tryz.func115, Tryz.ntmps115
 go_wp2_with (fail)
 generalize (w.alloc (.cells #[.slice Ax s.types.length cx, .int .i64 s.keys, .int .i64 s.mode, .int .i64 s.grain] 27)).alloc (.cells #[.slice Ax s.types.length cx, .int .i64 s.keys, .int .i64 s.mode, .int .i64 s.grain, .slice none 0 0] 290) = w1 at *
 rw [hx] at B1
 have hF2 : ∀ k, F k → k < x := fun k q => hx ▸ hF k q
 have hl0 : rdRows.Sl (fun k => F k ∨ x ≤ k) w1 A c ls := Rd.Sl.ext (hl.narrow (by decide) (fun k hk q => q.elim id (fun e => absurd hk (by omega)))) hE1
 have hA0 : SchAt (fun k => F k ∨ x ≤ k) w1 Ax cx s := Rd.Sl.ext (Rd.Sl.narrow (by decide) hA (fun k hk q => q.elim id (fun e => absurd hk (by omega)))) hE1
 clear hl hA
 go_loopw [15] (fun i wr => ∃ (k : Nat) (v : Value), i = .int .i64 k ∧ k ≤ ls.length ∧ wr.heap[x + 1]? = some (.cells #[.slice Ax s.types.length cx, .int .i64 s.keys, .int .i64 s.mode, .int .i64 s.grain, v] 290 (0, 0)) ∧ rdSrc.Own (fun k => (F k ∨ x ≤ k) ∨ k = x + 1) (x + 2) 292 wr v (srcs (ls.take k)) ∧ Keep (fun k => k = x + 1) w1 wr) (fun i _ => ls.length - (intOf i).toNat)
 case atStart => exact ⟨0, _, by go_num, Nat.zero_le _, B1, Rd.Own.nil _ _ _ _ _, Keep.refl _ _⟩
 case round =>
   obtain ⟨k, v, rfl, hkl, hB, hown, hK⟩ := hrel
   have hlr : rdRows.Sl (fun k => F k ∨ x ≤ k) wr A c ls := hl0.keep (hK.mono (fun i _ q => .inr (by omega)))
   have HS := hK.size
   by_cases hlt : k < ls.length
   · obtain ⟨b, o, A2, c2, rfl, hc, hcr⟩ := sl_get hlr hlt
     have HT := As.mk (take_snoc ls hlt)
     have htl : (ls.take k).length = k := by rw [List.length_take]; omega
     have hsn := srcs_snoc (ls.take k) ls[k]
     rw [htl, ← HT.out] at hsn
     have hslen := srcs_len (ls.take k)
     have d1 : (k : Int) < ls.length := by omega
     by_cases he : ls[k] = []
     · rw [if_pos he] at hsn
       have HSN := As.mk hsn
       have d2 : ((ls[k].length : Nat) : Int) = 0 := by rw [he]; rfl
       have d3 : decide ((0 : Int) < (ls[k].length : Int)) = false := decide_eq_false (by omega)
       clear hsn
       go_wp2_with (fail)
       go_roundw
       case rel => exact ⟨k + 1, v, by go_num, by omega, hB, by rw [HSN.out]; exact hown, hK⟩
       case measure => simp [intOf] <;> omega
     · rw [if_neg he] at hsn
       have HSN := As.mk hsn
       clear hsn
       have h0 := List.length_pos_iff.2 he
       have d3 : decide ((0 : Int) < (ls[k].length : Int)) = true := decide_eq_true (by omega)
       have hx1 : x + 1 < wr.heap.size := blk_lt hB
       have hEa := (Ext.refl wr).alloc (.cells #[.slice A2 ls[k].length c2, .int .i64 k] 292)
       have hcf : rdRow.Sl (Fv (fun i => (F i ∨ x ≤ i) ∨ i = x + 1) v) (wr.alloc (.cells #[.slice A2 ls[k].length c2, .int .i64 k] 292)) A2 c2 ls[k] := Rd.Sl.ext (hcr.narrow (by decide) (fun i _ q => by
         rcases q with (q | q) | q
         · exact q
         · exact .inr (by omega)
         · exact .inr (by have := (hown.ge i q).1; omega))) hEa
       have hO2 := hown.ext hEa
       have hsb : (srcs (List.take k ls)).length ≤ 1000 := by omega
       have p4 := bC hB 4
       have pf4 := bF hB 4
       have hpair : ∀ w2, (wr.alloc (.cells #[.slice A2 ls[k].length c2, .int .i64 k] 292)).grownBy w2 v.ownBlock → w2.heap[x + 1]? = wr.heap[x + 1]? := fun w2 hg => (hg.block (x + 1) (by simp; omega) (fun e => by have := (hown.ge (x + 1) e.symm).1; omega)).trans (hEa.block hx1)
       clear hEa hcr hl0 hA0 hlr
       go_wp2_with (first | (at_builtin; refine wpList_pushAt rfl (.tmp 27) (.tmp 31) 288 rfl rdSrc elSrc rfl hO2 rfl (heap_alloc_new wr _) (y := (ls[k], k)) ⟨A2, c2, rfl, hcf⟩ (by omega) (by unfold maxLen; omega) (by simp; omega) ?_; intro v' w2 hown2 hg2 hat2; have hB2 := (hpair w2 hg2).trans hB; have q4 := bC hB2 4; have qf4 := bF hB2 4; clear p4 pf4; obtain ⟨A9, c9, rfl, hc9, _⟩ := own_len hown2))
       have hK2 : Keep (fun k => k = x + 1) w1 w2 := Keep.newB (G := fun i => x + 2 ≤ i) (hK.post ((Ext.refl wr).alloc _)) (Keep.of_grown hg2 (fun i hi _ => (hown.ge i hi).1)) (fun i q => .inr (by rw [hsz]; exact q))
       go_roundw
       case rel => exact ⟨k + 1, .slice A9 ((srcs (List.take k ls)).length + 1) c9, by go_num, by omega, bS hB2 4 _, by rw [HSN.out]; simpa using own_q hown2 (by omega) (.slice A9 ((srcs (List.take k ls)).length + 1) c9), hK2.trans (kS1 _ _ _ _)⟩
       case measure => simp [intOf] <;> omega
   · obtain rfl : k = ls.length := by omega
     rw [List.take_length] at hown
     clear hl0
     have hsok : ∀ y ∈ srcs ls, SrcOk s y := by
       rintro ⟨y, i⟩ hy
       have := srcs_mem.1 hy
       exact ⟨this.2, ho y (List.mem_of_getElem? this.1)⟩
     have hsl := srcs_len ls
     by_cases h0 : srcs ls = []
     · have hm : mergeR (cmpS s) ls = [] := by
         rw [mergeR, h0]
         show mergeF (cmpS s) ls.flatten.length [] [] = []
         cases ls.flatten.length <;> rfl
       have HM := As.mk hm
       clear hm
       rw [h0] at hown
       obtain ⟨A9, c9, rfl, hc9, _⟩ := own_len hown
       go_wp2_with (fail)
       refine (initNil (x + 1) Ax cx s A9 c9 _ hB).mono ?_; rintro e w2 ⟨rfl, hw⟩; rw [hw]; clear hw
       go_wp2_with (fail)
       refine wp_loop_rounds 1 ?_
       rw [rounds_succ]
       go_wp2_with (fail)
       refine (lenC (x + 1) Ax cx s (.slice A9 0 c9) A9 0 c9 _ hB).mono ?_; rintro e w2 ⟨rfl, hw⟩; rw [hw]; clear hw
       go_wp2
       go_ret
       rw [HM.out]
       exact ⟨none, 0, rfl, Rd.Sl.nil0 _ _ _, hE1.keepNew hK (fun i q => by omega)⟩
     · obtain ⟨g, cap, rfl, hg, hgs⟩ := own_some hown (List.length_pos_iff.2 h0)
       have hcap : (srcs ls).length ≤ cap := by
         obtain ⟨A9, c9, e, h9, _⟩ := own_len hown
         cases e; exact h9
       have HH : HeapAt (fun k => F k ∨ x ≤ k) wr (x + 1) g cap Ax cx s (srcs ls) := ⟨hB, hown.lower (Nat.zero_le _), by omega, hcap, Rd.Sl.narrow (by decide) (Rd.Sl.keep hA0 (hK.mono (fun i _ q => .inr (by omega)))) (fun i _ q => by
         rcases q with (q | q) | q
         · exact q
         · exact .inr (by omega)
         · exact .inr (by omega))⟩
       clear hown hA0
       go_wp2_with (fail)
       refine (initC _ (x + 1) g cap Ax cx s hs (srcs ls) wr HH (by omega) (okTo_all hsok)).mono ?_; rintro e w2 ⟨rfl, h2, k2⟩
       have hp0 := init_perm (lt := ltS (cmpS s)) (srcs ls).length ((srcs ls).length / 2) (srcs ls) rfl (Nat.div_le_self _ _)
       have hM0 : mergeR (cmpS s) ls = mergeF (cmpS s) ls.flatten.length (initF (ltS (cmpS s)) ([], 0) (srcs ls).length ((srcs ls).length / 2) (srcs ls)) [] := rfl
       generalize initF (ltS (cmpS s)) ([], 0) (srcs ls).length ((srcs ls).length / 2) (srcs ls) = l0 at *
       have hls0 : left l0 = ls.flatten.length := (left_perm hp0).trans (left_srcs ls)
       have hok0 : ∀ y ∈ l0, SrcOk s y := fun y hy => hsok y (hp0.mem_iff.1 hy)
       have hll0 : l0.length ≤ 1000 := by rw [hp0.length_eq]; omega
       have HM0 := As.mk hM0
       have hK2 : Keep (fun k => k = x + 1) w1 w2 := hK.newB (G := fun i => x + 2 ≤ i) (k2.mono (fun i _ q => by omega)) (fun i q => .inr (by rw [hsz]; exact q))
       have hgw : g < w2.heap.size := by have := k2.size; omega
       have hxw : x + 2 ≤ w2.heap.size := by have := hK2.size; omega
       clear hM0 hp0 HH hsok h0 hB hK k2 hcap
       go_wp2_with (fail)
       go_loopw [8] (fun v wq => ∃ (f : Nat) (l : List SrcM) (out : List Row), rdRow.Own (fun k => (F k ∨ k = x + 1) ∨ k = g) w2.heap.size 41 wq v out ∧ HeapAt (fun k => F k ∨ x ≤ k) wq (x + 1) g cap Ax cx s l ∧ (∀ y ∈ l, SrcOk s y) ∧ left l ≤ f ∧ out.length + f ≤ 100000 ∧ mergeR (cmpS s) ls = mergeF (cmpS s) f l out ∧ l.length ≤ 1000 ∧ Keep (fun k => k = x + 1 ∨ k = g) w2 wq) (fun v _ => 100000 - slLen v)
       case atStart => exact ⟨ls.flatten.length, l0, [], Rd.Own.nil _ _ _ _ _, h2, hok0, by omega, by simpa using hN, HM0.out, hll0, Keep.refl _ _⟩
       case round =>
         clear h2 hok0 hls0 hll0 HM0
         obtain ⟨f, l, out, hout, h3, h4, h5, h6, h7, h8, h9⟩ := hrel
         have HM := As.mk h7
         clear h7
         rcases l with _ | ⟨⟨_ | ⟨r, rs⟩, i⟩, t⟩
         · obtain ⟨A', c', rfl, hs'⟩ := hout.shut (fun k q => by
             rcases q with (q | q) | q
             · have := hF2 k q; omega
             · omega
             · omega)
           have hb : wr.heap[x + 1]? = some (.cells (qCells Ax cx s g 0 cap) 290 (0, 0)) := h3.blk
           go_wp2_with (fail)
           refine (lenC (x + 1) Ax cx s (.slice (some ⟨g, 0, none⟩) 0 cap) _ 0 cap _ hb).mono ?_; rintro e w3 ⟨rfl, hw⟩; rw [hw]; clear hw
           go_wp2
           go_ret
           have hm : mergeR (cmpS s) ls = out := by
             rw [HM.out]
             cases f <;> rfl
           rw [hm]
           exact ⟨A', c', rfl, hs'.narrow (by decide) (fun k _ q => .inl (.inl q)), hE1.keepNew (hK2.newB h9 (G := fun k => k = x + 1 ∨ k = g) (fun i q => by rw [hsz]; rcases q with q | q; exact .inl q; exact .inr (by omega))) (fun i q => by omega)⟩
         · exact absurd rfl (h4 _ (List.mem_cons_self ..)).1
         · obtain ⟨f, rfl⟩ : ∃ f', f = f' + 1 := ⟨f - 1, by rw [left_cons] at h5; simp at h5; omega⟩
           have hok1 := h4 _ (List.mem_cons_self ..)
           obtain ⟨A1, c1, a0, a1, a2⟩ := h3.src (i := 0) (by simp)
           simp only [List.getElem_cons_zero, List.length_cons, Nat.zero_mul, Nat.zero_add] at a0 a1 a2
           obtain ⟨g1, o1, A3, c3, rfl, f0, f1⟩ := row_get a2 (k := 0) (by simp)
           simp only [List.getElem_cons_zero, Nat.add_zero] at f0 f1
           have hb : wr.heap[x + 1]? = some (.cells (qCells Ax cx s g (t.length + 1) cap) 290 (0, 0)) := h3.blk
           obtain ⟨A4, hsuf, hs4⟩ := Rd.Sl.suf a2 elRow 1 rs.length 1 (by simp) rfl (by simp)
           simp only [List.length_cons] at hsuf
           rw [List.drop_succ_cons, List.drop_zero] at hs4
           have p4 := bC hb 4
           have hgq : g < wr.heap.size := by have := h9.size; omega
           have hxq : x + 1 < wr.heap.size := by have := h9.size; omega
           have u0 : wr.frozen? ⟨g, 0, none⟩ = false := by
             obtain ⟨_, _, _, hfz⟩ := h3.own.cellj (i := 0) (by simp)
             exact hfz 0
           have d1 : decide ((0 : Int) < ((t.length + 1 : Nat) : Int)) = true := decide_eq_true (by omega)
           have hEa := (Ext.refl wr).alloc (.cells #[.slice A3 r.length c3] 41)
           have hcr : rdRow.C (Fv (fun k => (F k ∨ k = x + 1) ∨ k = g) u8) (wr.alloc (.cells #[.slice A3 r.length c3] 41)) [.slice A3 r.length c3] r := sl_Cn (Rd.Sl.ext (f1.narrow (by decide) (fun k _ q => by
             rcases q with ((q | q) | q) | q
             · exact .inl (.inl (.inl q))
             · exact .inl (.inr q)
             · exact .inr q
             · exact .inl (.inl (.inr (by have := (hout.ge k q).1; omega))))) hEa) rfl
           have hO2 := hout.ext hEa
           go_wp2_with (fail)
           refine (lenC (x + 1) Ax cx s (.slice (some ⟨g, 0, none⟩) (t.length + 1) cap) _ (t.length + 1) cap _ hb).mono ?_; rintro e w3 ⟨rfl, hw⟩; rw [hw]; clear hw
           have hol : out.length ≤ 100000 := by omega
           have hws := h9.size
           have hge := hout.ge
           have hkp : ∀ w4, (wr.alloc (.cells #[.slice A3 r.length c3] 41)).grownBy w4 u8.ownBlock → Keep (fun k => w2.heap.size ≤ k) wr w4 := fun w4 hg4 => (hEa.keep _).trans (Keep.of_grown hg4 (fun k hk _ => (hge k hk).1))
           by_cases hr : rs = []
           · have d2 : (((rs.length : Nat) : Int) == 0) = true := by simp [hr]
             have HR := As.mk hr
             clear hr
             go_wp2_with (first | (at_builtin; refine wpList_pushAt rfl (.tmp 47) (.tmp 54) 42 rfl rdRow elRow rfl hO2 rfl (heap_alloc_new wr _) (y := r) hcr (by omega) (by unfold maxLen; omega) (by simp; omega) ?_; intro v' w4 hown4 hg4 hat4; have k4 := hkp w4 hg4; have q0 := k4.cell (a := ⟨g, 0, none⟩) (Nat.not_le.2 hgw) a0; have qf0 : w4.frozen? ⟨g, 0, none⟩ = false := (by have := k4.block g hgq (Nat.not_le.2 hgw); simp only [World.frozen?, this] at u0 ⊢; exact u0)))
             have h3' := heap_keep h3 k4 (fun i q => .inr (by omega)) (by omega) (by omega)
             have hs4' := hs4.keep (k4.mono (fun i _ q => .inl (.inl (.inr (by omega)))))
             obtain ⟨h5a, k5⟩ := heap_next h3' (A := A4) (c := c1 - 1) (hs4'.narrow (by decide) (fun i _ q => by
               rcases q with q | q
               · exact .inl q
               · exact .inr (Option.some.inj q).symm))
             have hge4 := hown4.ge
             have hown5 := hown4.keep2 (k5.mono (fun i _ q => .inl (.inr q))) (fun b hb => k5.block b (hge4 b hb).2 (fun e => by have := (hge4 b hb).1; omega))
             have hlo : left ((rs, i) :: t) ≤ f := by rw [left_cons] at h5 ⊢; simp at h5 ⊢; omega
             have h4t : ∀ y ∈ t, SrcOk s y := fun y hy => h4 y (List.mem_cons_of_mem _ hy)
             have k45 : Keep (fun k => k = x + 1 ∨ k = g) w2 (w4.setCell ⟨g, 0, none⟩ (.slice A4 rs.length (c1 - 1))) := (h9.newB k4 (fun i q => .inr q)).trans (k5.mono (fun i _ q => .inr q))
             have htl : t.length + 1 ≤ 1000 := by simpa using h8
             obtain rfl := HR.out
             refine (hpopC _ (x + 1) g cap Ax cx s hs (([], i) :: t) _ h5a t.length rfl (by omega) (fun m hm hml => by
               rw [List.getD_eq_getElem?_getD, List.getElem?_eq_getElem hml, Option.getD_some]
               obtain ⟨m, rfl⟩ : ∃ m', m = m' + 1 := ⟨m - 1, by omega⟩
               rw [List.getElem_cons_succ]
               exact h4t _ (List.getElem_mem _))).mono ?_; rintro e w6 ⟨⟨v6, rfl⟩, h6a, k6⟩
             have hpp := pop_perm (c := cmpS s) ([], i) t
             have hHM2 : mergeR (cmpS s) ls = mergeF (cmpS s) f (popF (cmpS s) (([], i) :: t)) (out ++ [r]) := by rw [HM.out, mergeF, if_pos rfl]
             have HM2 := As.mk hHM2
             clear hHM2 HM
             generalize popF (cmpS s) (([], i) :: t) = l6 at *
             have hown6 := hown5.keep2 (k6.mono (fun i _ q => q.elim (fun q => .inl (.inr q)) (fun q => .inl (.inl (.inr q))))) (fun b hb => k6.block b (by have := (hge4 b hb).2; simpa using this) (fun e => by have := (hge4 b hb).1; omega))
             go_wp2_with (fail)
             go_roundw
             case rel => exact ⟨f, l6, out ++ [r], hown6, h6a, fun y hy => h4t y (hpp.mem_iff.1 hy), by rw [left_perm hpp]; rw [left_cons] at hlo; omega, by simp; omega, HM2.out, by rw [hpp.length_eq]; omega, k45.trans (k6.mono (fun i _ q => q.elim .inr .inl))⟩
             case measure =>
               obtain ⟨A7, c7, e7, _, _⟩ := own_len hout
               obtain ⟨A8, c8, e8, _, _⟩ := own_len hown6
               rw [e7, e8]
               simp [slLen]
               omega
           · have d2 : (((rs.length : Nat) : Int) == 0) = false := by simp [hr]
             go_wp2_with (first | (at_builtin; refine wpList_pushAt rfl (.tmp 47) (.tmp 54) 42 rfl rdRow elRow rfl hO2 rfl (heap_alloc_new wr _) (y := r) hcr (by omega) (by unfold maxLen; omega) (by simp; omega) ?_; intro v' w4 hown4 hg4 hat4; have k4 := hkp w4 hg4; have q0 := k4.cell (a := ⟨g, 0, none⟩) (Nat.not_le.2 hgw) a0; have qf0 : w4.frozen? ⟨g, 0, none⟩ = false := (by have := k4.block g hgq (Nat.not_le.2 hgw); simp only [World.frozen?, this] at u0 ⊢; exact u0)))
             have h3' := heap_keep h3 k4 (fun i q => .inr (by omega)) (by omega) (by omega)
             have hs4' := hs4.keep (k4.mono (fun i _ q => .inl (.inl (.inr (by omega)))))
             obtain ⟨h5a, k5⟩ := heap_next h3' (A := A4) (c := c1 - 1) (hs4'.narrow (by decide) (fun i _ q => by
               rcases q with q | q
               · exact .inl q
               · exact .inr (Option.some.inj q).symm))
             have hge4 := hown4.ge
             have hown5 := hown4.keep2 (k5.mono (fun i _ q => .inl (.inr q))) (fun b hb => k5.block b (hge4 b hb).2 (fun e => by have := (hge4 b hb).1; omega))
             have hlo : left ((rs, i) :: t) ≤ f := by rw [left_cons] at h5 ⊢; simp at h5 ⊢; omega
             have h4t : ∀ y ∈ t, SrcOk s y := fun y hy => h4 y (List.mem_cons_of_mem _ hy)
             have k45 : Keep (fun k => k = x + 1 ∨ k = g) w2 (w4.setCell ⟨g, 0, none⟩ (.slice A4 rs.length (c1 - 1))) := (h9.newB k4 (fun i q => .inr q)).trans (k5.mono (fun i _ q => .inr q))
             have htl : t.length + 1 ≤ 1000 := by simpa using h8
             refine (fixC _ (x + 1) g cap Ax cx s hs ((rs, i) :: t) _ h5a (by simpa using htl) (by simp) (okTo_all (fun y hy => by
               rcases List.mem_cons.1 hy with q | q
               · subst q; exact ⟨hr, fun r' hr' => hok1.2 r' (List.mem_cons_of_mem _ hr')⟩
               · exact h4t y q))).mono ?_; rintro e w6 ⟨rfl, h6a, k6⟩
             have hpp := fix_perm (c := cmpS s) ((rs, i) :: t) (by simp)
             have hHM2 : mergeR (cmpS s) ls = mergeF (cmpS s) f (fixF (cmpS s) ((rs, i) :: t)) (out ++ [r]) := by rw [HM.out, mergeF, if_neg hr]
             have HM2 := As.mk hHM2
             clear hHM2 HM
             generalize fixF (cmpS s) ((rs, i) :: t) = l6 at *
             have hown6 := hown5.keep2 (k6.mono (fun i _ q => .inl (.inr q))) (fun b hb => k6.block b (by have := (hge4 b hb).2; simpa using this) (fun e => by have := (hge4 b hb).1; omega))
             go_wp2_with (fail)
             go_roundw
             case rel => exact ⟨f, l6, out ++ [r], hown6, h6a, fun y hy => by
                 rcases List.mem_cons.1 (hpp.mem_iff.1 hy) with q | q
                 · subst q; exact ⟨hr, fun r' hr' => hok1.2 r' (List.mem_cons_of_mem _ hr')⟩
                 · exact h4t y q, by rw [left_perm hpp]; exact hlo, by simp; omega, HM2.out, by rw [hpp.length_eq]; simpa using htl, k45.trans (k6.mono (fun i _ q => .inr q))⟩
             case measure =>
               obtain ⟨A7, c7, e7, _, _⟩ := own_len hout
               obtain ⟨A8, c8, e8, _, _⟩ := own_len hown6
               rw [e7, e8]
               simp [slLen]
               omega
end K65
namespace K70
open Go Go.RowKit
open KB KB2 K1 K2 K3 K5 K12 K69
open K19 (PartAt)
abbrev PX (g : Nat) : Value := .pointer (some ⟨g, 0, none⟩)
theorem marks_len (s : Sch) (l : List Row) : (marks s l).length = (chunks s.grain l).length := by simp [marks]
theorem part_narrow {F G : Nat → Prop} {w : World} {g : Nat} {s : Sch} {l : List Row} (h : PartAt F w g s l) (hg : ∀ k, k < w.heap.size → G k → F k) : PartAt G w g s l := by
 obtain ⟨h0, A, c, Ag, cg, Am, cm, Ar, cr, hb, h1, h2, h3, h4⟩ := h
 exact ⟨fun q => h0 (hg g (blk_lt hb) q), A, c, Ag, cg, Am, cm, Ar, cr, hb, Rd.Sl.narrow (by decide) h1 hg, h2.narrow (by decide) hg, h3.narrow (by decide) hg, h4.narrow (by decide) hg⟩
theorem part_far {F : Nat → Prop} {w W : World} {g : Nat} {s : Sch} {l : List Row} (h : PartAt F w g s l) (hE : Ext w W) {v : Value} (hv : ∀ k, v.ownBlock = some k → w.heap.size ≤ k) : PartAt (Fv F v) W g s l :=
 (part_narrow h (fun k hk q => q.elim id (fun e => absurd (hv k e) (by omega)))).ext hE
theorem marksPC (F : Nat → Prop) (g : Nat) (s : Sch) (hs : s.Ok) (l : List Row) (w : World) (h : PartAt F w g s l) (hn : l.length ≤ 1000000) (hr : ∀ r ∈ l, RowOk s r) (hF : ∀ k, F k → k < w.heap.size) :
   Calls Tryz.prog 206 #[PX g] w fun e w' => ∃ A c, e = .returned (.slice A (chunks s.grain l).length c) ∧ Ext w w' := by
 have hm : ∀ r ∈ marks s l, r.length ≤ 1000 := fun r hrr => by
   obtain ⟨q, hq, rfl⟩ := K17.marks_mem hs.g1 r hrr
   have := (hr q hq).len
   have := hs.n2
   rw [List.length_take]; omega
 have hcl := chunks_length s.grain hs.g1 l.length l (Nat.le_refl _)
 have hml := marks_len s l
 have HML := As.mk hml
 go_enter Tryz.func206, Tryz.ntmps206
 go_wp2_with (fail)
 refine (K20.granulesC F g s l w h).mono ?_; rintro e w1 ⟨rfl, rfl⟩
 have hcb : (chunks s.grain l).length ≤ 1000000 := by omega
 have hmk := fun W (hW : Ext w W) k hk v (hv : ∀ k, v.ownBlock = some k → w.heap.size ≤ k ∧ k < W.heap.size) => K20.markC (Fv F v) g s l W (part_far h hW (fun j q => (hv j q).1)) k hk hm (fun j q => q.elim (FExt hF hW j) (fun e => (hv j e).2))
 generalize hM : marks s l = M at *
 generalize hN : (chunks s.grain l).length = N at *
 have HN := As.mk hN
 clear hm hr hcl hM hN hml
 go_wp2_with (fail)
 go_loopw [3, 9] (fun v i wr => ∃ k : Nat, i = .int .i64 k ∧ k ≤ N ∧ rdRow.Own F w.heap.size 41 wr v (M.take k) ∧ Ext w wr) (fun _ i _ => N - (intOf i).toNat)
 case atStart => exact ⟨0, by go_num, Nat.zero_le _, Rd.Own.nil _ _ _ _ _, Ext.refl _⟩
 case round =>
   obtain ⟨k, rfl, hkl, hown, hE⟩ := hrel
   have hML := HML.out
   by_cases hlt : k < N
   · have hkM : k < M.length := by omega
     have HT := As.mk (take_snoc M hkM)
     have htl : (M.take k).length = k := by rw [List.length_take]; omega
     have HTL := As.mk htl
     clear htl hML
     go_wp2_with (fail)
     refine (hmk wr hE k hkM u3 hown.ge).mono ?_; rintro e w2 ⟨A2, c2, rfl, hs2, hE2⟩
     go_wp2_with (first | (at_builtin; refine wpList_push rfl (.tmp 18) (.tmp 20) 42 rfl rdRow elRow rfl (hown.ext (hE2.alloc _)) rfl (heap_alloc_new w2 _) (y := M[k]) (sl_Cn (hs2.ext ((Ext.refl w2).alloc _)) rfl) (by have := HTL.out; omega) (by have := HTL.out; unfold maxLen; omega) (by have := hE.size; have := hE2.size; simp; omega) ((hE.trans hE2).alloc _) ?_; intro v' w3 hown3 hg3 hE3))
     rw [← HT.out] at hown3
     go_roundw
     case rel => exact ⟨k + 1, by go_num, by omega, hown3, hE3⟩
     case measure => simp [intOf] <;> omega
   · obtain rfl : k = N := by omega
     rw [List.take_of_length_le (by omega)] at hown
     obtain ⟨A, c, rfl, hc, _⟩ := K65.own_len hown
     go_wp2
     go_ret
     exact ⟨A, c, by rw [HN.out, ← hML]; rfl, hE⟩
theorem delC (F : Nat → Prop) (A : Option Addr) (c : Nat) (l : List Row) (fn : Nat) (caps : Array Value) (w : World) (hA : rdRow.Sl F w A c l) (hn : l.length ≤ 1000000) (hen : IsFn fn)
   (hf : ∀ W k (hk : k < l.length) A2 c2, Ext w W → rdVal.Sl F W A2 c2 l[k] → Calls Tryz.prog fn (#[.slice A2 l[k].length c2] ++ caps) W fun e w' => e = .returned (.bool false) ∧ Ext W w') :
   Calls Tryz.prog 290 #[.slice A l.length c, .func (.func fn) #[] caps] w fun e w' => e = .returned (.slice A l.length c) ∧ Ext w w' := by
 go_enter Tryz.func290, Tryz.ntmps290
 go_wp2_with (fail)
 refine (idxRow F A c l fn caps w hA hn hen hf).mono ?_; rintro e w1 ⟨rfl, hE⟩
 go_wp2
 go_ret
 exact ⟨rfl, hE⟩
theorem keptC (F : Nat → Prop) (A : Option Addr) (c : Nat) (l : List Row) (fn : Nat) (caps : Array Value) (w : World) (hA : rdRow.Sl F w A c l) (hn : l.length ≤ 1000000) (hF : ∀ k, F k → k < w.heap.size) (hen : IsFn fn)
   (hf : ∀ W k (hk : k < l.length) A2 c2, Ext w W → Calls Tryz.prog fn (#[.slice A2 l[k].length c2] ++ caps) W fun e w' => e = .returned (.bool true) ∧ Ext W w') :
   Calls Tryz.prog 208 #[.slice A l.length c, .func (.func fn) #[] caps] w fun e w' => ∃ A' c', e = .returned (.slice A' l.length c') ∧ rdRow.Sl F w' A' c' l ∧ Ext w w' := by
 obtain ⟨x, hx⟩ : ∃ x, w.heap.size = x := ⟨_, rfl⟩
 have hE1 := (Ext.refl w).alloc (.cells #[.func (.func fn) #[] caps] 142)
 have B1 := bN w (.cells #[.func (.func fn) #[] caps] 142)
 go_enter Tryz.func208, Tryz.ntmps208
 go_wp2_with (fail)
 generalize (w.alloc (.cells #[.func (.func fn) #[] caps] 142)) = w1 at *
 rw [hx] at B1
 refine (K9.cloneR F A c l w1 (hA.ext hE1) (by omega) (FExt hF hE1)).mono ?_; rintro e w2 ⟨A2, c2, rfl, hs2, hE2⟩
 have hE12 := hE1.trans hE2
 have hk1 : ∀ W k (hk : k < l.length) A3 c3, Ext w2 W → rdVal.Sl F W A3 c3 l[k] → Calls Tryz.prog 291 (#[.slice A3 l[k].length c3] ++ #[.pointer (some ⟨x, 0, none⟩)]) W fun e w' => e = .returned (.bool false) ∧ Ext W w' := by
   intro W k hk A3 c3 hW _
   have hc0 := (hE2.trans hW).cell (bC B1 0)
   have hff := hf W k hk A3 c3 (hE12.trans hW)
   have hent := hen (#[.slice A3 l[k].length c3] ++ caps)
   show Calls Tryz.prog 291 #[.slice A3 l[k].length c3, .pointer (some ⟨x, 0, none⟩)] W _
   go_enter Tryz.func291, Tryz.ntmps291
   go_wp2_with (first | (refine hff.mono ?_; rintro e w4 ⟨rfl, hE4⟩))
   go_ret
   exact ⟨rfl, hE4⟩
 go_wp2_with (fail)
 refine (delC F A2 c2 l 291 #[.pointer (some ⟨x, 0, none⟩)] w2 hs2 hn (fun _ _ => rfl) hk1).mono ?_; rintro e w3 ⟨rfl, hE3⟩
 go_wp2
 go_ret
 exact ⟨A2, c2, rfl, hs2.ext hE3, hE12.trans hE3⟩
theorem rd1C (Ax : Option Addr) (cx : Nat) (s : Sch) (x : Nat) (Ar : Option Addr) (n cr : Nat) (w : World) (h1 : w.heap[x]? = some (.cells #[.slice Ax s.types.length cx, .int .i64 s.keys, .int .i64 s.mode, .int .i64 s.grain] 27 (0, 0))) (h2 : w.heap[x + 1]? = some (.cells #[.bool false, .bool false, .slice none 0 0, .slice none 0 0] 71 (0, 0))) :
   Calls Tryz.prog 209 (#[.slice Ar n cr] ++ #[PX x, PX (x + 1)]) w fun e w' => e = .returned (.bool true) ∧ Ext w w' := by
 (have p0 := bC (h1) 0; have p1 := bC (h1) 1; have p2 := bC (h1) 2; have p3 := bC (h1) 3)
 (have q0 := bC (h2) 0; have q1 := bC (h2) 1; have q2 := bC (h2) 2; have q3 := bC (h2) 3)
 show Calls Tryz.prog 209 #[.slice Ar n cr, PX x, PX (x + 1)] w _
 go_enter Tryz.func209, Tryz.ntmps209
 go_wp2_with (fail)
 refine (inC Ax cx s Ar n cr w).mono ?_; rintro e w1 ⟨rfl, hE⟩
 go_wp2
 go_ret
 exact ⟨rfl, hE⟩
theorem flat_le (M : List (List Row)) (k : Nat) (hk : k < M.length) : (M.take k).flatten.length + M[k].length ≤ M.flatten.length := by
 have h : M = M.take k ++ (M[k] :: M.drop (k + 1)) := by rw [← List.drop_eq_getElem_cons hk, List.take_append_drop]
 have h2 := congrArg (fun L => L.flatten.length) h
 simp only [List.flatten_append, List.flatten_cons, List.length_append] at h2
 omega
theorem flat_snoc (M : List (List Row)) (k : Nat) (hk : k < M.length) : (M.take (k + 1)).flatten = (M.take k).flatten ++ M[k] := by
 rw [take_snoc M hk, List.flatten_append, List.flatten_cons, List.flatten_nil, List.append_nil]
theorem readPC (F : Nat → Prop) (Ax : Option Addr) (cx : Nat) (g : Nat) (s : Sch) (hs : s.Ok) (l : List Row) (w : World) (h : PartAt F w g s l) (hn : l.length ≤ 100000) (hr : ∀ r ∈ l, RowOk s r) (hF : ∀ k, F k → k < w.heap.size) :
   Calls Tryz.prog 114 #[schV Ax cx s, PX g, r0V] w fun e w' => ∃ (A : Option Addr) (c n : Nat), e = .returned (.tuple #[.slice A l.length c, .int .i64 n]) ∧ n ≤ l.length ∧ rdRow.Sl F w' A c l ∧ Ext w w' := by
 obtain ⟨x, hx⟩ : ∃ x, w.heap.size = x := ⟨_, rfl⟩
 have hE1 := ((Ext.refl w).alloc (.cells #[.slice Ax s.types.length cx, .int .i64 s.keys, .int .i64 s.mode, .int .i64 s.grain] 27)).alloc (.cells #[.bool false, .bool false, .slice none 0 0, .slice none 0 0] 71)
 have B1 := bO2 (o' := .cells #[.bool false, .bool false, .slice none 0 0, .slice none 0 0] 71) (bN w (.cells #[.slice Ax s.types.length cx, .int .i64 s.keys, .int .i64 s.mode, .int .i64 s.grain] 27))
 have B2 := bN (w.alloc (.cells #[.slice Ax s.types.length cx, .int .i64 s.keys, .int .i64 s.mode, .int .i64 s.grain] 27)) (.cells #[.bool false, .bool false, .slice none 0 0, .slice none 0 0] 71)
 rw [World.size_alloc] at B2
 have hcl := chunks_length s.grain hs.g1 l.length l (Nat.le_refl _)
 have hfl := P4.chunks_flat s.grain hs.g1 l.length l (Nat.le_refl _)
 have hcp := chunks_pos s.grain hs.g1 l.length l (Nat.le_refl _)
 have hce := K17.chunks_le s.grain hs.g1 l.length l (Nat.le_refl _)
 go_enter Tryz.func114, Tryz.ntmps114
 go_wp2_with (fail)
 generalize (w.alloc (.cells #[.slice Ax s.types.length cx, .int .i64 s.keys, .int .i64 s.mode, .int .i64 s.grain] 27)).alloc (.cells #[.bool false, .bool false, .slice none 0 0, .slice none 0 0] 71) = w1 at *
 rw [hx] at B1 B2
 have h1 := h.ext hE1
 have hF1 := FExt hF hE1
 (have p0 := bC (B1) 0; have p1 := bC (B1) 1; have p2 := bC (B1) 2; have p3 := bC (B1) 3)
 (have q0 := bC (B2) 0; have q1 := bC (B2) 1; have q2 := bC (B2) 2; have q3 := bC (B2) 3)
 have hmp := fun W (hW : Ext w1 W) => marksPC F g s hs l W (h1.ext hW) (by omega) hr (FExt hF1 hW)
 have keep : ∀ w', Ext w1 w' → Ext w1 w' ∧ w'.cell? ⟨x, 0, none⟩ = some (.slice Ax s.types.length cx) ∧ w'.cell? ⟨x, 1, none⟩ = some (.int .i64 s.keys) ∧ w'.cell? ⟨x, 2, none⟩ = some (.int .i64 s.mode) ∧ w'.cell? ⟨x, 3, none⟩ = some (.int .i64 s.grain) ∧ w'.cell? ⟨x + 1, 0, none⟩ = some (.bool false) ∧ w'.cell? ⟨x + 1, 1, none⟩ = some (.bool false) ∧ w'.cell? ⟨x + 1, 2, none⟩ = some (.slice none 0 0) ∧ w'.cell? ⟨x + 1, 3, none⟩ = some (.slice none 0 0) := fun w' h => ⟨h, h.cell p0, h.cell p1, h.cell p2, h.cell p3, h.cell q0, h.cell q1, h.cell q2, h.cell q3⟩
 go_region_held3 (fun w' => Ext w1 w' ∧ w'.cell? ⟨x, 0, none⟩ = some (.slice Ax s.types.length cx) ∧ w'.cell? ⟨x, 1, none⟩ = some (.int .i64 s.keys) ∧ w'.cell? ⟨x, 2, none⟩ = some (.int .i64 s.mode) ∧ w'.cell? ⟨x, 3, none⟩ = some (.int .i64 s.grain) ∧ w'.cell? ⟨x + 1, 0, none⟩ = some (.bool false) ∧ w'.cell? ⟨x + 1, 1, none⟩ = some (.bool false) ∧ w'.cell? ⟨x + 1, 2, none⟩ = some (.slice none 0 0) ∧ w'.cell? ⟨x + 1, 3, none⟩ = some (.slice none 0 0)) (((try dsimp only); refine keep _ ?_; first | with_reducible assumption | exact XE)) (first | (go_at_call 206; refine (hmp _ XE).mono ?_; rintro e w2 ⟨A2, c2, rfl, hE2⟩; have hx2 := Ext.trans (a := w1) XE hE2) | (go_at_call 205; refine (meetsC Ax cx s A2 _ c2 (by omega) _).mono ?_; rintro e w3 ⟨rfl, hE3⟩; have hx3 := Ext.trans (a := w1) XE hE3))
 (try simp only [Exit.inBlock, Exit.then])
 clear hmp keep p0 p1 p2 p3 q0 q1 q2 q3
 have hlen : As (∀ r ∈ l, r.length ≤ 1000) := ⟨fun r hrr => by have := (hr r hrr).len; have := hs.n2; omega⟩
 have hgr := fun W (hW : Ext w1 W) k hk v (hv : ∀ k, v.ownBlock = some k → w1.heap.size ≤ k ∧ k < W.heap.size) => K20.granuleC (Fv F v) g s l W (part_far h1 hW (fun j q => (hv j q).1)) k hk (fun c hc => ⟨by have := hce c hc; omega, fun r hrr => hlen.out r ((hcp c hc).2 r hrr)⟩) (fun j q => q.elim (FExt hF1 hW j) (fun e => (hv j e).2))
 have hkc := fun (M : List Row) W (hW : Ext w1 W) A' c' (v : Value) (hv : ∀ k, v.ownBlock = some k → w1.heap.size ≤ k ∧ k < W.heap.size) (hM : rdRow.Sl (Fv F v) W A' c' M) (hMl : M.length ≤ 1000000) => keptC (Fv F v) A' c' M 209 #[PX x, PX (x + 1)] W hM hMl (fun j q => q.elim (FExt hF1 hW j) (fun e => (hv j e).2)) (fun _ _ => rfl) (fun W' k hk A2 c2 hW' => rd1C Ax cx s x A2 _ c2 W' ((hW.trans hW').blk B1) ((hW.trans hW').blk B2))
 have hcb : As (∀ c ∈ chunks s.grain l, c.length ≤ 100000) := ⟨fun c hc => by have := hce c hc; omega⟩
 have hfl' := As.mk hfl
 have hcN : (chunks s.grain l).length ≤ l.length := hcl
 generalize chunks s.grain l = M at *
 clear hcp hce hcl hfl h hr hlen
 go_wp2_with (fail)
 go_loopw [10, 11] (fun v i wr => ∃ k : Nat, i = .int .i64 k ∧ k ≤ M.length ∧ rdRow.Own F w1.heap.size 41 wr v (M.take k).flatten ∧ Ext w1 wr) (fun _ i _ => M.length - (intOf i).toNat)
 case atStart => exact ⟨0, by go_num, Nat.zero_le _, Rd.Own.nil _ _ _ _ _, hx3⟩
 case round =>
   obtain ⟨k, rfl, hkl, hown, hE⟩ := hrel
   by_cases hlt : k < M.length
   · have HT := As.mk (flat_snoc M k hlt)
     have HL := flat_le M k hlt
     rw [hfl'.out] at HL
     have hMk := hcb.out M[k] (List.getElem_mem hlt)
     go_wp2_with (fail)
     refine (hgr wr hE k hlt u10 hown.ge).mono ?_; rintro e w4 ⟨A4, c4, rfl, hs4, hE4⟩
     go_wp2_with (fail)
     refine (hkc M[k] w4 (hE.trans hE4) A4 c4 u10 (fun j q => ⟨(hown.ge j q).1, Nat.lt_of_lt_of_le (hown.ge j q).2 hE4.size⟩) hs4 (by omega)).mono ?_; rintro e w5 ⟨A5, c5, rfl, hs5, hE5⟩
     have hE45 := hE4.trans hE5
     go_wp2_with (first | (at_builtin; refine wpList_app rfl (.tmp 34) (.tmp 37) 42 rfl rdRow elRow rfl (hown.ext hE45) rfl rfl hs5 (by omega) (by unfold maxLen; omega) (by have := hE.size; have := hE45.size; omega) (hE.trans hE45) ?_; intro v' w6 hown6 hg6 hE6))
     rw [← HT.out] at hown6
     go_roundw
     case rel => exact ⟨k + 1, by go_num, by omega, hown6, hE6⟩
     case measure => simp [intOf] <;> omega
   · obtain rfl : k = M.length := by omega
     rw [List.take_length, hfl'.out] at hown
     obtain ⟨A', c', rfl, hs'⟩ := hown.shut hF1
     go_wp2
     go_returns
     exact ⟨A', c', M.length, by simp, hcN, hs', hE1.trans hE⟩
end K70
end Go.Proofs.YtbjeejimedhniaaGreatDoor
