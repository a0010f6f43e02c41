/- Contracts of the program's functions, as the walks of the law use them. -/
import Derived.Test.YtbjeejimedhniaaGreatDoorD22
import Derived.Laws.EntriesVeiled
import Derived.Test.YtbjeejimedhniaaGreatDoorD11
import Derived.Test.YtbjeejimedhniaaGreatDoorD19
import Derived.Test.YtbjeejimedhniaaGreatDoorD2
import Derived.Test.YtbjeejimedhniaaGreatDoorD20
import Derived.Test.YtbjeejimedhniaaGreatDoorD1
set_option linter.unusedVariables false
set_option linter.unusedSimpArgs false
set_option maxRecDepth 100000
set_option maxHeartbeats 20000000
namespace Go.Proofs.YtbjeejimedhniaaGreatDoor
namespace K119
open Go Go.RowKit
open KB KB2 K1 K2 K3 K62 K115 K116 K117
abbrev two : List (Int × Int) := [(1, 0), (2, 1)]
abbrev aggV (x : Int × Int) : Value := .agg #[.int .i64 x.1, .int .i64 x.2]
theorem aggMayC (F : Nat → Prop) (Ax : Option Addr) (cx : Nat) (s : Sch) (hts : s.types = [1, 2]) (A : Option Addr) (c : Nat) (w : World) (hA : SchAt F w Ax cx s) (hl : rdPr.Sl F w A c two) :
   Calls Tryz.prog 113 #[schV Ax cx s, .slice A 2 c] w fun e w' => e = .returned (.bool true) ∧ Ext w w' := by
 obtain ⟨b, o, rfl, h0, h1⟩ := pr_get hl (k := 0) (by decide)
 obtain ⟨b', o', e, h2, h3⟩ := pr_get hl (k := 1) (by decide)
 cases e
 simp only [List.getElem_cons_zero, List.getElem_cons_succ, Nat.zero_mul, Nat.one_mul, Nat.add_zero] at h0 h1 h2 h3
 have hn : s.types.length = 2 := by rw [hts]; rfl
 have hA0 : (rdInt .i64).Sl F w Ax cx s.types := hA
 obtain ⟨tb, o3, rfl, ht⟩ := int_get hA0 (k := 1) (by omega)
 have e1 : s.types[1]'(by omega) = 2 := by simp [hts]
 rw [e1] at ht
 obtain ⟨x, hx⟩ : ∃ x, w.heap.size = x := ⟨_, rfl⟩
 have B0 := bN w (.cells #[.slice (some ⟨tb, o3, none⟩) 2 cx, .int .i64 s.keys, .int .i64 s.mode, .int .i64 s.grain] 27)
 have E0 := (Ext.refl w).alloc (.cells #[.slice (some ⟨tb, o3, none⟩) 2 cx, .int .i64 s.keys, .int .i64 s.mode, .int .i64 s.grain] 27)
 rw [hx] at B0
 have E := E0
 replace h0 := E0.cell h0
 replace h1 := E0.cell h1
 replace h2 := E0.cell h2
 replace h3 := E0.cell h3
 replace ht := E0.cell ht
 clear hA hA0 hl hts
 unfold schV
 rw [hn]
 go_enter Tryz.func113, Tryz.ntmps113
 go_wp2_with (fail)
 generalize w.alloc (.cells #[.slice (some ⟨tb, o3, none⟩) 2 cx, .int .i64 s.keys, .int .i64 s.mode, .int .i64 s.grain] 27) = w1 at *
 refine wp_loop_rounds 3 ?_
 rw [rounds_succ]
 have D0 := bN w1 (.cells #[.int .i64 1, .int .i64 0] 274)
 have X0 := (Ext.refl w1).alloc (.cells #[.int .i64 1, .int .i64 0] 274)
 have C0 := X0.blk B0
 have t0 := X0.cell ht
 (have p0 := bC (D0) 0; have p1 := bC (D0) 1)
 (have q0 := bC (C0) 0; have q1 := bC (C0) 1; have q2 := bC (C0) 2; have q3 := bC (C0) 3)
 go_wp2_with (fail)
 replace E := E.trans X0
 replace h0 := X0.cell h0
 replace h1 := X0.cell h1
 replace h2 := X0.cell h2
 replace h3 := X0.cell h3
 replace ht := X0.cell ht
 replace B0 := X0.blk B0
 clear D0 X0 C0 t0 p0 p1 q0 q1 q2 q3
 generalize w1.alloc (.cells #[.int .i64 1, .int .i64 0] 274) = w2 at *
 rw [rounds_succ]
 have D1 := bN w2 (.cells #[.int .i64 2, .int .i64 1] 274)
 have X1 := (Ext.refl w2).alloc (.cells #[.int .i64 2, .int .i64 1] 274)
 have C1 := X1.blk B0
 have t1 := X1.cell ht
 (have p0 := bC (D1) 0; have p1 := bC (D1) 1)
 (have q0 := bC (C1) 0; have q1 := bC (C1) 1; have q2 := bC (C1) 2; have q3 := bC (C1) 3)
 go_wp2_with (fail)
 replace E := E.trans X1
 replace h0 := X1.cell h0
 replace h1 := X1.cell h1
 replace h2 := X1.cell h2
 replace h3 := X1.cell h3
 replace ht := X1.cell ht
 replace B0 := X1.blk B0
 clear D1 X1 C1 t1 p0 p1 q0 q1 q2 q3
 generalize w2.alloc (.cells #[.int .i64 2, .int .i64 1] 274) = w3 at *
 rw [rounds_succ]
 go_wp2_with (fail)
 go_ret
 exact ⟨rfl, E⟩
def accR (f : Row → Int) (rows : List Row) : Int := rows.foldl (fun a r => wrap64 (a + f r)) 0
abbrev f1 : Row → Int := fun _ => 1
abbrev f2 : Row → Int := fun r => (r.getD 1 (0, emp)).1
theorem accR_snoc (f : Row → Int) (l : List Row) (r : Row) : accR f (l ++ [r]) = wrap64 (accR f l + f r) := by simp [accR]
theorem acc_count (l : List Row) (h : l.length ≤ 100000) : accR f1 l = l.length := by
 induction l using snoc_ind with
 | h0 => rfl
 | hs l x ih =>
   rw [List.length_append] at h
   simp only [List.length_cons, List.length_nil] at h
   rw [accR_snoc, ih (by omega), List.length_append]
   simp only [List.length_cons, List.length_nil]
   show wrap64 ((l.length : Int) + 1) = _
   unfold wrap64; omega
theorem idx1 (W : World) : (Instr.index 301 (.agg ways0) (.int .i64 1)).run Tryz.prog W = .ok (.agg #[.bool true, .int .i64 0, .string emp, fSingle, fPlus]) W := by kernel_rfl
theorem idx2 (W : World) : (Instr.index 301 (.agg ways0) (.int .i64 2)).run Tryz.prog W = .ok (.agg #[.bool true, .int .i64 0, .string emp, fAs, fPlus]) W := by kernel_rfl
def IdxOk (v : Value) : Prop := (∀ W, (Instr.index 301 v (.int .i64 1)).run Tryz.prog W = .ok (.agg #[.bool true, .int .i64 0, .string emp, fSingle, fPlus]) W) ∧ (∀ W, (Instr.index 301 v (.int .i64 2)).run Tryz.prog W = .ok (.agg #[.bool true, .int .i64 0, .string emp, fAs, fPlus]) W)
theorem cellFree : rdCell.Free := fun _ _ _ _ _ _ h => h
theorem waysV (w : World) : Calls Tryz.prog 218 #[] w fun e w' => ∃ v, e = .returned v ∧ IdxOk v ∧ Ext w w' := by
 refine (waysC w).mono ?_
 rintro e w' ⟨rfl, hE⟩
 exact ⟨_, rfl, ⟨idx1, idx2⟩, hE⟩
theorem c2 {w : World} {g : Nat} {a b : Value} {T : TypeId} {fr : Nat × Nat} (h : w.heap[g]? = some (.cells #[a, b] T fr)) : w.cell? ⟨g, 0, none⟩ = some a ∧ w.cell? ⟨g, 1, none⟩ = some b := ⟨bC h 0, bC h 1⟩
theorem c4 {w : World} {g : Nat} {a b c d : Value} {T : TypeId} {fr : Nat × Nat} (h : w.heap[g]? = some (.cells #[a, b, c, d] T fr)) : w.cell? ⟨g, 0, none⟩ = some a := bC h 0
theorem c5 {w : World} {g : Nat} {a b c d e : Value} {T : TypeId} {fr : Nat × Nat} (h : w.heap[g]? = some (.cells #[a, b, c, d, e] T fr)) : w.cell? ⟨g, 0, none⟩ = some a ∧ w.cell? ⟨g, 1, none⟩ = some b ∧ w.cell? ⟨g, 2, none⟩ = some c ∧ w.cell? ⟨g, 3, none⟩ = some d ∧ w.cell? ⟨g, 4, none⟩ = some e := ⟨bC h 0, bC h 1, bC h 2, bC h 3, bC h 4⟩
theorem c3 {w : World} {g : Nat} {a b c : Value} {T : TypeId} {fr : Nat × Nat} (h : w.heap[g]? = some (.cells #[a, b, c] T fr)) : w.cell? ⟨g, 0, none⟩ = some a ∧ w.cell? ⟨g, 1, none⟩ = some b ∧ w.cell? ⟨g, 2, none⟩ = some c := ⟨bC h 0, bC h 1, bC h 2⟩
theorem f3 {w : World} {g : Nat} {a b c : Value} {T : TypeId} (h : w.heap[g]? = some (.cells #[a, b, c] T (0, 0))) (j : Nat) : w.frozen? ⟨g, j, none⟩ = false := bF h j
theorem f5 {w : World} {g : Nat} {a b c d e : Value} {T : TypeId} (h : w.heap[g]? = some (.cells #[a, b, c, d, e] T (0, 0))) (j : Nat) : w.frozen? ⟨g, j, none⟩ = false := bF h j
theorem aggRowsC (F : Nat → Prop) (Ax : Option Addr) (cx : Nat) (s : Sch) (hts : s.types = [1, 2]) (Aq : Option Addr) (cq : Nat) (A : Option Addr) (c : Nat) (rows : List Row) (w : World) (hA : SchAt F w Ax cx s) (hq : rdPr.Sl F w Aq cq two) (hl : rdRow.Sl F w A c rows) (hn : rows.length ≤ 100000) (ho : ∀ r ∈ rows, RowOk s r) (hF : ∀ k, F k → k < w.heap.size) :
   Calls Tryz.prog 118 #[schV Ax cx s, .slice Aq 2 cq, .slice A rows.length c] w fun e w' => ∃ A' c', e = .returned (.slice A' 2 c') ∧ rdCell.Sl F w' A' c' [accR f1 rows, accR f2 rows] ∧ Ext w w' := by
 have hn2 : s.types.length = 2 := by rw [hts]; rfl
 have hA0 : (rdInt .i64).Sl F w Ax cx s.types := hA
 obtain ⟨b, o, rfl, h0, h1⟩ := pr_get hq (k := 0) (by decide)
 obtain ⟨b', o', e, h2, h3⟩ := pr_get hq (k := 1) (by decide)
 cases e
 obtain ⟨tb, o3, rfl, ht0⟩ := int_get hA0 (k := 0) (by omega)
 obtain ⟨tb', o3', e, ht1⟩ := int_get hA0 (k := 1) (by omega)
 cases e
 obtain ⟨res, hres⟩ : ∃ res, [accR f1 rows, accR f2 rows] = res := ⟨_, rfl⟩
 have HRES := As.mk hres
 rw [hres]
 have hpk : ∀ k, k < 2 → ∃ (kd : Int) (bc : Nat) (T : Int) (fnum : Nat), w.cell? ⟨b, o + k * 2, none⟩ = some (.int .i64 kd) ∧ w.cell? ⟨b, o + k * 2 + 1, none⟩ = some (.int .i64 bc) ∧ w.cell? ⟨tb, o3 + bc, none⟩ = some (.int .i64 T) ∧ (∀ v, IdxOk v → ∀ W, (Instr.index 301 v (.int .i64 kd)).run Tryz.prog W = .ok (.agg #[.bool true, .int .i64 0, .string emp, .func (.func fnum) #[] #[], fPlus]) W) ∧ bc < 2 ∧ IsFn fnum ∧ ∃ g : Int → Int, (∀ m W, Calls Tryz.prog fnum #[valV (m, emp)] W fun e w' => e = .returned (valV (g m, emp)) ∧ Ext W w') ∧ res.take (k + 1) = res.take k ++ [accR (fun r => g (r.getD bc (0, emp)).1) rows] := by
   intro k hk
   have e1 : s.types[1]'(by omega) = 2 := by simp [hts]
   have e0 : s.types[0]'(by omega) = 1 := by simp [hts]
   rw [e1] at ht1
   rw [e0] at ht0
   match k, hk with
   | 0, _ => exact ⟨1, 0, 1, _, h0, h1, ht0, fun v hv => hv.1, by decide, fun args w => enters_of Tryz.func296 (by kernel_rfl) rfl args w, fun _ => 1, singleC, by rw [← hres]; rfl⟩
   | 1, _ => exact ⟨2, 1, 2, _, h2, h3, ht1, fun v hv => hv.2, by decide, fun args w => enters_of Tryz.func298 (by kernel_rfl) rfl args w, fun m => m, asC, by rw [← hres]; rfl⟩
 have HPK := As.mk hpk
 have hrow : As (∀ k (h : k < rows.length), rows[k].length = 2 ∧ ∀ v0 i, i < 2 → (rows[k].getD i v0).2 = emp) := ⟨fun k h => by
   have hr := ho _ (List.getElem_mem h)
   have hl2 : rows[k].length = 2 := by rw [hr.len]; exact hn2
   refine ⟨hl2, fun v0 i hi => ?_⟩
   have hv := hr.val i (by omega) (by omega)
   rw [List.getD_eq_getElem?_getD, List.getElem?_eq_getElem (by omega)]
   show (rows[k][i]'(by omega)).2 = emp
   have hm : s.types[i]'(by omega) ∈ s.types := List.getElem_mem _
   generalize s.types[i]'(by omega) = z at hm hv
   rw [hts] at hm
   rcases hv.2 with ⟨_, e⟩ | ⟨e, _⟩
   · exact e
   · subst e; exact absurd hm (by decide)⟩
 have hl1 : rdRow.Sl (fun q => F q ∨ w.heap.size ≤ q) w A c rows := hl.narrow (by decide) (fun k hk q => q.elim id (fun q => by omega))
 have B0 := bN w (.cells #[.slice (some ⟨tb, o3, none⟩) 2 cx, .int .i64 s.keys, .int .i64 s.mode, .int .i64 s.grain] 27)
 have E0 := (Ext.refl w).alloc (.cells #[.slice (some ⟨tb, o3, none⟩) 2 cx, .int .i64 s.keys, .int .i64 s.mode, .int .i64 s.grain] 27)
 obtain ⟨x, hx⟩ : ∃ x, w.heap.size = x := ⟨_, rfl⟩
 rw [hx] at B0
 replace hl1 := hl1.ext E0
 have hF1 := FExt hF E0
 clear hA hA0 hq hts hl ho hres h0 h1 h2 h3 ht0 ht1 hpk
 unfold schV
 rw [hn2]
 have HW := As.mk waysV
 have HB := As.mk bothC
 go_enter Tryz.func118, Tryz.ntmps118
 go_wp2_with (fail)
 generalize w.alloc (.cells #[.slice (some ⟨tb, o3, none⟩) 2 cx, .int .i64 s.keys, .int .i64 s.mode, .int .i64 s.grain] 27) = w1 at *
 go_loopw [7, 17] (fun v i wr => ∃ k : Nat, i = .int .i64 k ∧ k ≤ 2 ∧ rdCell.Own F w1.heap.size 35 wr v (res.take k) ∧ Ext w1 wr) (fun _ i _ => 2 - (intOf i).toNat)
 case atStart => exact ⟨0, by go_num, Nat.zero_le _, Rd.Own.nil _ _ _ _ _, Ext.refl _⟩
 case round =>
   obtain ⟨k, rfl, hk, hown, hE⟩ := hrel
   by_cases hk2 : k < 2
   · obtain ⟨kd, bc, T, fnum, h0, h1, ht, hi, hbc, hfn, g, hgc, htk⟩ := HPK.out k hk2
     have HI := As.mk hi
     have HFN := As.mk hfn
     have HGC := As.mk hgc
     have HTK := As.mk htk
     have hbi : (bc : Int) < 2 := by omega
     clear hi hfn hgc htk
     have E0r := E0.trans hE
     replace h0 := E0r.cell h0
     replace h1 := E0r.cell h1
     replace ht := E0r.cell ht
     replace hl1 := hl1.ext hE
     have B0r := hE.blk B0
     have D0 := bN wr (.cells #[.int .i64 kd, .int .i64 bc] 274)
     have X0 := (Ext.refl wr).alloc (.cells #[.int .i64 kd, .int .i64 bc] 274)
     go_upto_region 5 with (fail)
     have hE3 := hE.trans X0
     replace B0r := X0.blk B0r
     replace ht := X0.cell ht
     replace hl1 := hl1.ext X0
     have hown3 := hown.ext X0
     clear h0 h1 hown X0 hE E0r HPK
     generalize wr.alloc (.cells #[.int .i64 kd, .int .i64 bc] 274) = w3 at *
     obtain ⟨y, hy⟩ : ∃ y, wr.heap.size = y := ⟨_, rfl⟩
     rw [hy] at D0 ⊢
     clear hy
     have HT := As.mk ht
     have HD := As.mk D0
     have HBB := As.mk B0r
     have ntb := (fun q => absurd (World.block_lt_of_cell? w3 _ ht) (by rw [q]; exact Nat.lt_irrefl _) : ¬ tb = w3.heap.size)
     have nyb := (fun q => absurd (blk_lt D0) (by rw [q]; exact Nat.lt_irrefl _) : ¬ y = w3.heap.size)
     have nxb := (fun q => absurd (blk_lt B0r) (by rw [q]; exact Nat.lt_irrefl _) : ¬ x = w3.heap.size)
     have ntb2 := (fun q => ntb q.symm : ¬ w3.heap.size = tb)
     have nyb2 := (fun q => nyb q.symm : ¬ w3.heap.size = y)
     have nxb2 := (fun q => nxb q.symm : ¬ w3.heap.size = x)
     have Xz := (Ext.refl w3).alloc (.cells #[.bool false, .int .i64 0, .string emp, .nilFunc, .nilFunc] 300)
     have faa := (c2 (D0)).1
     have fab := (c2 (D0)).2
     have fac := c4 (B0r)
     have fad := ht
     have fba := (c2 (Xz.blk D0)).1
     have fbb := (c2 (Xz.blk D0)).2
     have fbc := c4 (Xz.blk B0r)
     have fbd := Xz.cell ht
     clear Xz
     have keep : ∀ w', Ext w3 w' → Ext w3 w' ∧ w'.cell? ⟨y, 0, none⟩ = some (.int .i64 kd) ∧ w'.cell? ⟨y, 1, none⟩ = some (.int .i64 bc) ∧ w'.cell? ⟨x, 0, none⟩ = some (.slice (some ⟨tb, o3, none⟩) 2 cx) ∧ w'.cell? ⟨tb, o3 + bc, none⟩ = some (.int .i64 T) := fun w' h => ⟨h, (c2 (h.blk D0)).1, (c2 (h.blk D0)).2, c4 (h.blk B0r), h.cell ht⟩
     have HD0 := HD
     clear D0 B0r ht faa fab fac fad fba fbb fbc fbd ntb nyb nxb ntb2 nyb2 nxb2 HT HD HBB
     go_cut [10, 11] (fun r e wx => ∃ zb, r = .pointer (some ⟨zb, 0, none⟩) ∧ e = .int .i64 T ∧ wx.heap[zb]? = some (.cells #[.bool true, .int .i64 0, .string emp, .func (.func fnum) #[] #[], fPlus] 300 (0, 0)) ∧ Ext w3 wx)
     case first =>
       clear hrow hl1 hown3 HB HRES hF1 hn hE3 E0 hF HFN HGC HTK hk hk2 hn2
       have hr0 := Ext.refl w3
       go_region_held3 (fun w' => Ext w3 w' ∧ w'.cell? ⟨y, 0, none⟩ = some (.int .i64 kd) ∧ w'.cell? ⟨y, 1, none⟩ = some (.int .i64 bc) ∧ w'.cell? ⟨x, 0, none⟩ = some (.slice (some ⟨tb, o3, none⟩) 2 cx) ∧ w'.cell? ⟨tb, o3 + bc, none⟩ = some (.int .i64 T)) (((try dsimp only); refine keep _ ?_; first | with_reducible assumption | exact (by (repeat (first | with_reducible refine Ext.drew ?_ | with_reducible refine Ext.drewN ?_ _ | with_reducible refine Ext.alloc ?_ _ | refine Ext.setCell ?_ (Nat.le_refl _) _ | refine Ext.setCell ?_ (show _ ≤ _ from hz4) _)); first | with_reducible assumption | with_reducible exact Ext.refl _ | with_reducible exact Ext.trans (by with_reducible assumption) (by with_reducible assumption)))) (first | (go_at_call 218; refine (HW.out _).mono ?_; rintro e w4 ⟨vw, rfl, hvw, hE4⟩; have hv := HI.out vw hvw; clear hvw; have hx4 : Ext w3 w4 := Ext.trans XE hE4; have hz4 := hx4.size; have W4 : w4.heap[w3.heap.size]? = some (.cells #[.bool false, .int .i64 0, .string emp, .nilFunc, .nilFunc] 300 (0, 0)) := hE4.blk (by first | exact bN w3 _ | exact Ext.blk (Ext.drew (Ext.refl _)) (bN w3 _)); have za0 := (c5 W4).1; have zf0 := f5 W4 0; have za1 := (c5 W4).2.1; have zf1 := f5 W4 1; have za2 := (c5 W4).2.2.1; have zf2 := f5 W4 2; have za3 := (c5 W4).2.2.2.1; have zf3 := f5 W4 3; have za4 := (c5 W4).2.2.2.2; have zf4 := f5 W4 4; skip) | (go_at_call 218; refine (HW.out _).mono ?_; rintro e w4 ⟨vw, rfl, hvw, hE4⟩; have hv := HI.out vw hvw; clear hvw; have hx4 : Ext w3 w4 := Ext.trans XE hE4; have hz4 := hx4.size; skip))
       all_goals
         (try simp only [Exit.inBlock, Exit.then])
         go_wp2_with (fail)
         go_meet
         first
           | with_reducible exact ⟨w4.heap.size, rfl, rfl, bN _ _, hx4.alloc _⟩
           | exact ⟨w3.heap.size, rfl, rfl, bS (bS (bS (bS (bS (W4) 0 (.bool true)) 1 (.int .i64 0)) 2 (.string emp)) 3 (.func (.func fnum) #[] #[])) 4 fPlus, (by (repeat (first | with_reducible refine Ext.drew ?_ | with_reducible refine Ext.drewN ?_ _ | with_reducible refine Ext.alloc ?_ _ | refine Ext.setCell ?_ (Nat.le_refl _) _ | refine Ext.setCell ?_ (show _ ≤ _ from hz4) _)); first | with_reducible assumption | with_reducible exact Ext.refl _ | with_reducible exact Ext.trans (by with_reducible assumption) (by with_reducible assumption))⟩
     case rest =>
       obtain ⟨zb, rfl, rfl, hz, hE4⟩ := hcut
       generalize wc = w5 at *
       have D0 : w5.heap[y]? = some (.cells #[.int .i64 kd, .int .i64 bc] 274 (0, 0)) := hE4.blk HD0.out
       replace hl1 := hl1.ext hE4
       have hown5 := hown3.ext hE4
       have hE5 := hE3.trans hE4
       clear keep hE3 hown3 hE4 HD0 HI HW
       have X6 := (Ext.refl w5).alloc (.cells #[.bool true, .int .i64 0, .string emp] 35)
       have Z6 := bN w5 (.cells #[.bool true, .int .i64 0, .string emp] 35)
       have hzl := blk_lt hz
       have hyl := blk_lt D0
       have hz0 := hz
       have hxl : x ≤ w5.heap.size := by rw [← hx]; exact (E0.trans hE5).size
       have hw1l := hE5.size
       (have z0 := bC (hz) 0; have z1 := bC (hz) 1; have z2 := bC (hz) 2; have z3 := bC (hz) 3; have z4 := bC (hz) 4)
       go_upto_region 8 with (fail)
       have hz6 := X6.blk hz0
       have D6 := X6.blk D0
       have hl6 := hl1.ext X6
       have hown6 := hown5.ext X6
       have hE6 := hE5.trans X6
       have hog : ∀ q, u7.ownBlock = some q → q < w5.heap.size := fun q e => (hown5.ge q e).2
       obtain ⟨zc, hzc⟩ : ∃ zc, w5.heap.size = zc := ⟨_, rfl⟩
       rw [hzc] at Z6 hzl hyl hxl hw1l hog ⊢
       clear hz0 D0 hl1 hown5 hE5 hz z0 z1 z2 z3 z4 X6 hzc
       generalize w5.alloc (.cells #[.bool true, .int .i64 0, .string emp] 35) = w6 at *
       have hzcl := blk_lt Z6
       have hnb : ¬ zb = zc := by omega
       have hny : ¬ y = zc := by omega
       have HOG := As.mk hog
       clear hog
       clear hzl hyl
       obtain ⟨f, hf⟩ : ∃ f : Row → Int, (fun r : Row => g (r.getD bc (0, emp)).1) = f := ⟨_, rfl⟩
       have hff : ∀ r : Row, f r = g (r.getD bc (0, emp)).1 := fun r => by rw [← hf]
       rw [hf] at HTK
       have HFF := As.mk hff
       clear hf hff
       go_loopw [35] (fun i wr2 => ∃ j : Nat, i = .int .i64 j ∧ j ≤ rows.length ∧ wr2.heap[zc]? = some (.cells #[.bool true, .int .i64 (accR f (rows.take j)), .string emp] 35 (0, 0)) ∧ Keep (fun q => q = zc) w6 wr2) (fun i _ => rows.length - (intOf i).toNat)
       case atStart => exact ⟨0, by go_num, Nat.zero_le _, Z6, Keep.refl _ _⟩
       case round =>
         obtain ⟨j, rfl, hj, hZ, hK⟩ := hrel
         by_cases hlt : j < rows.length
         · obtain ⟨b1, o1, A2, cr, rfl, hc, hv⟩ := row_get (hl6.keep (hK.mono (fun q _ e => .inr (by omega)))) hlt
           obtain ⟨hr2, hre⟩ := hrow.out j hlt
           obtain ⟨b2, o2, rfl, v0, v1⟩ := val_get hv (k := bc) (by omega)
           have hg : ∀ v0, rows[j].getD bc v0 = rows[j][bc]'(by omega) := fun v0 => by rw [List.getD_eq_getElem?_getD, List.getElem?_eq_getElem (by omega)]; rfl
           have hm := hre (0, emp) bc hbc
           rw [hg] at hm
           rw [hm] at v1
           have hfr : f rows[j] = g (rows[j][bc]'(by omega)).1 := by rw [HFF.out, hg]
           obtain ⟨m, hm2⟩ : ∃ m, (rows[j][bc]'(by omega)).1 = m := ⟨_, rfl⟩
           rw [hm2] at v0 hfr
           have hac := accR_snoc f (rows.take j) rows[j]
           rw [← List.take_succ_eq_append_getElem hlt, hfr] at hac
           have HAC := As.mk hac
           obtain ⟨a0, ha0⟩ : ∃ a0, accR f (rows.take j) = a0 := ⟨_, rfl⟩
           rw [ha0] at HAC hZ
           rw [hr2] at hc
           have hzr := hK.blk hnb hz6
           have hDr := hK.blk hny D6
           obtain ⟨gm, hgm⟩ : ∃ x, g m = x := ⟨_, rfl⟩
           have HSm := As.mk (fun W => HGC.out m W)
           rw [hgm] at HSm HAC
           have HBm := As.mk (fun W => HB.out (.func (.func fnum) #[] #[]) T a0 gm W)
           have HZ := As.mk hZ
           have HZB := As.mk hzr
           have u := c3 hZ
           have u0 := u.1
           have u1 := u.2.1
           have u2 := u.2.2
           have z := c5 hzr
           have z0 := z.1
           have z1 := z.2.1
           have z2 := z.2.2.1
           have z3 := z.2.2.2.1
           have z4 := z.2.2.2.2
           have p1 := (c2 hDr).2
           have hent : ∀ W, (callFunc fnum #[valV (m, emp)]).run Tryz.prog W = .ok (.enter fnum #[valV (m, emp)]) W := fun W => HFN.out _ W
           have HK := As.mk hK
           clear hv hre hg hm hfr hac ha0 hm2 hl6 hown6 hr2 HB HGC HFN hzr hDr hZ u z hgm hK HFF
           have kp : ∀ w', Ext wr w' → Ext wr w' ∧ w'.cell? ⟨zb, 0, none⟩ = some (.bool true) ∧ w'.cell? ⟨zb, 1, none⟩ = some (.int .i64 0) ∧ w'.cell? ⟨zb, 2, none⟩ = some (.string emp) ∧ w'.cell? ⟨zb, 3, none⟩ = some (.func (.func fnum) #[] #[]) ∧ w'.cell? ⟨zb, 4, none⟩ = some fPlus ∧ w'.cell? ⟨zc, 0, none⟩ = some (.bool true) ∧ w'.cell? ⟨zc, 1, none⟩ = some (.int .i64 a0) ∧ w'.cell? ⟨zc, 2, none⟩ = some (.string emp) ∧ w'.cell? ⟨y, 1, none⟩ = some (.int .i64 bc) ∧ w'.cell? ⟨b2, o2 + bc * 2, none⟩ = some (.int .i64 m) ∧ w'.cell? ⟨b2, o2 + bc * 2 + 1, none⟩ = some (.string emp) := fun w' h => ⟨h, h.cell z0, h.cell z1, h.cell z2, h.cell z3, h.cell z4, h.cell u0, h.cell u1, h.cell u2, h.cell p1, h.cell v0, h.cell v1⟩
           go_wp2_with (fail)
           clear hrow hF1 E0 hF hk hk2 hn2 HTK HRES
           refine KT.wp_lx (fun w' => Ext wr w' ∧ w'.cell? ⟨zb, 0, none⟩ = some (.bool true) ∧ w'.cell? ⟨zb, 1, none⟩ = some (.int .i64 0) ∧ w'.cell? ⟨zb, 2, none⟩ = some (.string emp) ∧ w'.cell? ⟨zb, 3, none⟩ = some (.func (.func fnum) #[] #[]) ∧ w'.cell? ⟨zb, 4, none⟩ = some fPlus ∧ w'.cell? ⟨zc, 0, none⟩ = some (.bool true) ∧ w'.cell? ⟨zc, 1, none⟩ = some (.int .i64 a0) ∧ w'.cell? ⟨zc, 2, none⟩ = some (.string emp) ∧ w'.cell? ⟨y, 1, none⟩ = some (.int .i64 bc) ∧ w'.cell? ⟨b2, o2 + bc * 2, none⟩ = some (.int .i64 m) ∧ w'.cell? ⟨b2, o2 + bc * 2 + 1, none⟩ = some (.string emp)) 13 14 rfl (by kernel_rfl) (by kernel_rfl) (kp _ (Ext.refl wr).drew) ?_
           iterate 10
             refine KT.Lx.take (v := ?_) (by kernel_rfl) (fun _ _ _ h => h) (by rfl) ?_ ?_
             rotate_left
             · intro w hSw; (try dsimp only at hSw); go_simp; try with_reducible rfl
             try simp only [Act.put, List.setIfInBounds_toArray, List.set_cons_zero, List.set_cons_succ]
           refine KT.Lx.step (by kernel_rfl) (fun K hK => ?_)
           go_simp
           go_at_fn fnum
           with_reducible refine Calls.mono (HSm.out _) ?_
           rintro e w7 ⟨rfl, hE7⟩
           have hx7 := Ext.trans (a := wr) XE hE7
           dsimp only
           refine hK.out _ _ (kp _ hx7) ?_
           clear hK K
           try simp only [Act.put, List.setIfInBounds_toArray, List.set_cons_zero, List.set_cons_succ]
           refine KT.Lx.take (v := ?_) (by kernel_rfl) (fun _ _ _ h => h) (by rfl) ?_ ?_
           rotate_left
           · intro w hSw; (try dsimp only at hSw); go_simp; try with_reducible rfl
           try simp only [Act.put, List.setIfInBounds_toArray, List.set_cons_zero, List.set_cons_succ]
           refine KT.Lx.step (by kernel_rfl) (fun K hK => ?_)
           go_simp
           go_at_call 219
           with_reducible refine Calls.mono (HBm.out _) ?_
           rintro e w8 ⟨rfl, hE8⟩
           have hx8 := Ext.trans (a := wr) hx7 hE8
           dsimp only
           refine hK.out _ _ (kp _ hx8) ?_
           clear hK K
           try simp only [Act.put, List.setIfInBounds_toArray, List.set_cons_zero, List.set_cons_succ]
           have W8 := hx8.blk HZ.out
           have s0 := (c3 W8).1
           have s1 := (c3 W8).2.1
           have s2 := (c3 W8).2.2
           have f0 := f3 W8 0
           have f1 := f3 W8 1
           have f2 := f3 W8 2
           refine KT.Lx.last (by kernel_rfl) (fun K hK => ?_)
           go_simp
           refine hK.out _ _ ?_
           clear hK K
           try simp only [Act.put, List.setIfInBounds_toArray, List.set_cons_zero, List.set_cons_succ]
           (try simp only [Exit.inBlock, Exit.then])
           go_wp2_with (fail)
           go_roundw
           case rel => exact ⟨j + 1, by go_num, hlt, (by rw [HAC.out]; exact bS (bS (bS W8 0 (.bool true)) 1 (.int .i64 (wrap64 (a0 + gm)))) 2 (.string emp)), (HK.out.post hx8).trans (((Keep.setCell (F := fun q => q = zc) _ _ _ rfl).trans (Keep.setCell _ _ _ rfl)).trans (Keep.setCell _ _ _ rfl))⟩
           case measure => simp [intOf] <;> omega
         · obtain rfl : j = rows.length := by omega
           rw [List.take_length] at hZ
           have u := c3 hZ
           have u0 := u.1
           have u1 := u.2.1
           have u2 := u.2.2
           have hE7 : Ext w1 wr := Keep.extNew hE6 hK (fun q e => by rw [e]; exact hw1l)
           have hown7 : rdCell.Own F w1.heap.size 35 wr u7 (res.take k) := hown6.free cellFree (fun q e => hK.block q (by have := HOG.out q e; omega) (by have := HOG.out q e; omega))
           have HK2 := As.mk hk
           have hlk : (res.take k).length = k := by rw [List.length_take, ← HRES.out]; show min k 2 = k; omega
           clear hl6 hown6 hK hrow HB HFN HGC HFF hZ u hF hz6 D6
           go_wp2_with (first | (at_builtin; refine wpList_pushAt rfl _ _ 65 rfl rdCell elCell rfl (hown7.ext ((Ext.refl wr).alloc _)) rfl (heap_alloc_new _ _) (y := accR f rows) rfl (by rw [hlk]; omega) (by rw [hlk]; unfold maxLen; omega) (by have := hE7.size; simp; omega) ?_; intro v' w8 hown8 hg8 hat8))
           go_roundw
           case rel => exact ⟨k + 1, by go_num, by omega, (by rw [HTK.out]; exact hown8), Ext.grown (hE7.alloc _) hg8 (fun q e => (hown7.ge q e).1)⟩
           case measure => simp [intOf] <;> omega
   · obtain rfl : k = 2 := by omega
     go_wp2_with (fail)
     have hfin : res.take 2 = res := by rw [← HRES.out]; rfl
     rw [hfin] at hown
     have hlr : res.length = 2 := by rw [← HRES.out]; rfl
     obtain ⟨Az, cz, rfl, hsl⟩ := hown.shut hF1
     rw [hlr] at *
     go_ret
     exact ⟨Az, cz, rfl, hsl, E0.trans hE⟩
end K119
namespace K120
open Go Go.RowKit
open KB KB2 K1 K2 K3 K5 P2 P3 P4 P7 K60 K61 K65 K68 K69 K70
open K19 (PartAt PartAt.keep PartAt.ext)
open K71 K72 K115 K119
abbrev q1V (Aq : Option Addr) (cq : Nat) : Value := .agg #[.bool false, .bool false, .slice none 0 0, .slice none 0 0, .bool true, .slice none 0 0, .slice Aq 2 cq]
theorem runAC (F : Nat → Prop) (Ax : Option Addr) (cx : Nat) (s : Sch) (hs : s.Ok) (A : Option Addr) (c : Nat) (parts : List (List Row)) (w : World) (hts : s.types = [1, 2]) (Aq : Option Addr) (cq : Nat) (hq : rdPr.Sl F w Aq cq two) (hA : SchAt F w Ax cx s) (hp : (rdPart s).Sl F w A c parts) (hn : parts.length ≤ 1000) (hN : parts.flatten.length ≤ 100000) (ho : ∀ x ∈ parts, Srt (cmpS s) x ∧ ∀ r ∈ x, RowOk s r) (hF : ∀ k, F k → k < w.heap.size) :
   Calls Tryz.prog 49 #[schV Ax cx s, .slice A parts.length c, q1V Aq cq] w fun e w' => ∃ (A' : Option Addr) (c' : Nat) (n : Int), e = .returned (.tuple #[.agg #[.slice none 0 0, .slice A' 2 c', .int .i64 n], .int .i64 0]) ∧ rdCell.Sl F w' A' c' [accR f1 (told s true parts), accR f2 (told s true parts)] ∧ Ext w w' := by
 have HTS := As.mk hts
 clear hts
 obtain ⟨x, hx⟩ : ∃ x, w.heap.size = x := ⟨_, rfl⟩
 have hE1 := (((Ext.refl w).alloc (.cells #[.slice Ax s.types.length cx, .int .i64 s.keys, .int .i64 s.mode, .int .i64 s.grain] 27)).alloc (.cells #[.bool false, .bool false, .slice none 0 0, .slice none 0 0, .bool true, .slice none 0 0, .slice Aq 2 cq] 75)).alloc (.cells #[.slice none 0 0, .slice none 0 0, .int .i64 0] 67)
 have B1 := bO2 (o' := .cells #[.slice none 0 0, .slice none 0 0, .int .i64 0] 67) (bO2 (o' := .cells #[.bool false, .bool false, .slice none 0 0, .slice none 0 0, .bool true, .slice none 0 0, .slice Aq 2 cq] 75) (bN w (.cells #[.slice Ax s.types.length cx, .int .i64 s.keys, .int .i64 s.mode, .int .i64 s.grain] 27)))
 have B2 := bO2 (o' := .cells #[.slice none 0 0, .slice none 0 0, .int .i64 0] 67) (bN (w.alloc (.cells #[.slice Ax s.types.length cx, .int .i64 s.keys, .int .i64 s.mode, .int .i64 s.grain] 27)) (.cells #[.bool false, .bool false, .slice none 0 0, .slice none 0 0, .bool true, .slice none 0 0, .slice Aq 2 cq] 75))
 have B3 := bN ((w.alloc (.cells #[.slice Ax s.types.length cx, .int .i64 s.keys, .int .i64 s.mode, .int .i64 s.grain] 27)).alloc (.cells #[.bool false, .bool false, .slice none 0 0, .slice none 0 0, .bool true, .slice none 0 0, .slice Aq 2 cq] 75)) (.cells #[.slice none 0 0, .slice none 0 0, .int .i64 0] 67)
 simp only [World.size_alloc] at B2 B3
 obtain ⟨m1, m2, m3⟩ := mergeR_ok (cmpS_ord s) parts ho
 have hmr : ∀ r ∈ mergeR (cmpS s) parts, RowOk s r := fun r hr => by
   obtain ⟨y, hy, hr⟩ := List.mem_flatten.1 (m1.mem_iff.1 hr)
   exact (ho y hy).2 r hr
 have hml : (mergeR (cmpS s) parts).length ≤ 100000 := by rw [m1.length_eq]; exact hN
 clear m1 m2 m3
 go_enter Tryz.func49, Tryz.ntmps49
 go_wp2_with (fail)
 generalize (((w.alloc (.cells #[.slice Ax s.types.length cx, .int .i64 s.keys, .int .i64 s.mode, .int .i64 s.grain] 27)).alloc (.cells #[.bool false, .bool false, .slice none 0 0, .slice none 0 0, .bool true, .slice none 0 0, .slice Aq 2 cq] 75)).alloc (.cells #[.slice none 0 0, .slice none 0 0, .int .i64 0] 67)) = w1 at *
 rw [hx] at B1 B2 B3
 refine (filterMay0 Ax cx s w1).mono ?_; rintro e w2 ⟨rfl, hE2⟩
 (have p0 := bC (hE2.blk B1) 0; have p1 := bC (hE2.blk B1) 1; have p2 := bC (hE2.blk B1) 2; have p3 := bC (hE2.blk B1) 3)
 (have q0 := bC (hE2.blk B2) 0; have q1 := bC (hE2.blk B2) 1; have q2 := bC (hE2.blk B2) 2; have q3 := bC (hE2.blk B2) 3; have q4 := bC (hE2.blk B2) 4; have q5 := bC (hE2.blk B2) 5; have q6 := bC (hE2.blk B2) 6)
 go_wp2_with (fail)
 refine (aggMayC F Ax cx s HTS.out Aq cq w2 (Rd.Sl.ext hA (hE1.trans hE2)) (hq.ext (hE1.trans hE2))).mono ?_; rintro e w3 ⟨rfl, hE3⟩
 clear p0 p1 p2 p3 q0 q1 q2 q3 q4 q5 q6
 have hE13 := hE2.trans hE3
 replace B1 := hE13.blk B1
 replace B2 := hE13.blk B2
 replace B3 := hE13.blk B3
 have hE03 := hE1.trans hE13
 have B4 := bN w3 (.cells #[.slice none 0 0, .slice none 0 0, .int .i64 0] 67)
 have hE4 := (Ext.refl w3).alloc (.cells #[.slice none 0 0, .slice none 0 0, .int .i64 0] 67)
 have hyx : x + 1 + 1 < w3.heap.size := blk_lt B3
 go_wp2_with (fail)
 have hE04 := hE03.trans hE4
 replace B1 := hE4.blk B1
 replace B2 := hE4.blk B2
 replace B3 := hE4.blk B3
 have hsz4 : (w3.alloc (.cells #[.slice none 0 0, .slice none 0 0, .int .i64 0] 67)).heap.size = w3.heap.size + 1 := by simp
 generalize (w3.alloc (.cells #[.slice none 0 0, .slice none 0 0, .int .i64 0] 67)) = w4 at *
 have hy0 : w.heap.size ≤ w3.heap.size := hE03.size
 obtain ⟨y, hy⟩ : ∃ y, w3.heap.size = y := ⟨_, rfl⟩
 rw [hy] at B4 hyx hsz4 hy0 ⊢
 clear hE13 hE3 hE2 hE4 hE03
 have hF4 : ∀ k, (F k ∨ k = x + 1 + 1 ∨ k = y) → k < y + 1 := fun k q => by
   rcases q with q | q | q
   · have := hF k q; omega
   · omega
   · omega
 have hpy : (rdPart s).Sl (fun k => F k ∨ x ≤ k) w4 A c parts := Rd.Sl.ext (Rd.Sl.narrow Nat.one_pos hp (fun k hk q => q.elim id (fun q => by omega))) hE04
 have hAy : SchAt (fun k => F k ∨ k = x + 1 + 1 ∨ k = y) w4 Ax cx s := Rd.Sl.ext (Rd.Sl.narrow Nat.one_pos hA (fun k hk q => q.elim id (fun q => q.elim (fun q => by omega) (fun q => by omega)))) hE04
 have hqy : rdPr.Sl (fun k => F k ∨ k = x + 1 + 1 ∨ k = y) w4 Aq cq two := (hq.narrow (by decide) (fun k hk q => q.elim id (fun q => q.elim (fun q => by omega) (fun q => by omega)))).ext hE04
 clear hp hA hq
 go_loopw [9, 30] (fun v i wr => ∃ (k : Nat) (n : Int), i = .int .i64 k ∧ k ≤ parts.length ∧ 0 ≤ n ∧ n ≤ 100000 * k ∧ rdRows.Own (fun j => F j ∨ j = x + 1 + 1 ∨ j = y) (y + 1) 42 wr v (parts.take k) ∧ wr.heap[y]? = some (.cells #[.slice none 0 0, .slice none 0 0, .int .i64 n] 67 (0, 0)) ∧ Keep (fun j => j = y) w4 wr) (fun _ i _ => parts.length - (intOf i).toNat)
 case atStart => exact ⟨0, 0, by go_num, Nat.zero_le _, Int.le_refl _, by omega, Rd.Own.nil _ _ _ _ _, B4, Keep.refl _ _⟩
 case round =>
   obtain ⟨k, n, rfl, hkl, hn0, hn1, hown, hB, hK⟩ := hrel
   by_cases hlt : k < parts.length
   · obtain ⟨b, o, g, rfl, hc, hpg⟩ := part_get (hpy.keep (hK.mono (fun _ _ q => .inr (by omega)))) hlt
     have HT := As.mk (take_snoc parts hlt)
     have htl : (parts.take k).length ≤ 1000 := by rw [List.length_take]; omega
     have hok := ho parts[k] (List.getElem_mem hlt)
     have hfl := flat_le parts k hlt
     have b1 := hK.blk (by omega : ¬ x = y) B1
     have b2 := hK.blk (by omega : ¬ x + 1 = y) B2
     (have p0 := bC (b1) 0; have p1 := bC (b1) 1; have p2 := bC (b1) 2; have p3 := bC (b1) 3)
     (have q0 := bC (b2) 0; have q1 := bC (b2) 1; have q2 := bC (b2) 2; have q3 := bC (b2) 3; have q4 := bC (b2) 4; have q5 := bC (b2) 5; have q6 := bC (b2) 6)
     have hge := hown.ge
     have hrd := readPC (Fv (fun j => F j ∨ j = x + 1 + 1 ∨ j = y) u9) Ax cx g s hs parts[k] wr (part_narrow hpg (fun j hj q => q.elim (fun q => q.elim .inl (fun q => .inr (by omega))) (fun e => .inr (by have := (hge j e).1; omega)))) (by omega) hok.2 (fun j q => q.elim (fun q => Nat.lt_of_lt_of_le (hF4 j q) (hsz4 ▸ hK.size)) (fun q => (hge j q).2))
     go_wp2_with (fail)
     refine hrd.mono ?_; rintro e w5 ⟨A5, c5, n5, rfl, hn5, hs5, hE5⟩
     have hB5 := hE5.blk hB
     have hy5 : y < wr.heap.size := blk_lt hB
     have hOa := hown.ext (hE5.alloc (.cells #[.slice A5 parts[k].length c5] 42))
     have hsa := hs5.ext ((Ext.refl w5).alloc (.cells #[.slice A5 parts[k].length c5] 42))
     have hkp : ∀ w6, (w5.alloc (.cells #[.slice A5 parts[k].length c5] 42)).grownBy w6 u9.ownBlock → w6.heap[y]? = w5.heap[y]? ∧ Keep (fun j => j = y) w4 w6 := fun w6 hg6 => by
       have k6 : Keep (fun j => y + 1 ≤ j) wr w6 := ((hE5.alloc _).keep _).trans (Keep.of_grown hg6 (fun j hj _ => (hge j hj).1))
       exact ⟨(k6.block y hy5 (by omega)).trans (hE5.block hy5).symm, hK.newB k6 (fun j q => .inr (by rw [hsz4]; exact q))⟩
     have hwn : IntKind.i64.wrap (n + (n5 : Int)) = n + n5 := by rw [IntKind.wrap_i64]; omega
     clear p0 p1 p2 p3 q0 q1 q2 q3 q4 q5 q6 hrd
     go_wp2_with (first | (at_builtin; refine wpList_pushAt rfl (.tmp 42) (.tmp 44) 51 rfl rdRows elRows rfl hOa rfl (heap_alloc_new w5 _) (y := parts[k]) (sl_Cn hsa rfl) (by omega) (by unfold maxLen; omega) (by have := hK.size; have := hE5.size; simp; omega) ?_; intro v' w6 hown6 hg6 hat6; have hB6 := (hkp w6 hg6).1.trans hB5; have y2 := bC hB6 2; have yf2 := bF hB6 2))
     rw [← HT.out] at hown6
     have hown7 := hown6.keep2 ((kS1 w6 y 2 (.int .i64 (n + n5))).mono (fun j _ q => .inl (.inr (.inr q)))) (fun j hj => (kS1 w6 y 2 (.int .i64 (n + n5))).block j (hown6.ge j hj).2 (fun e => by have := (hown6.ge j hj).1; omega))
     go_roundw
     case rel => exact ⟨k + 1, n + n5, by go_num, by omega, by omega, by omega, hown7, bS hB6 2 _, (hkp w6 hg6).2.trans (kS1 _ _ _ _)⟩
     case measure => simp [intOf] <;> omega
   · obtain rfl : k = parts.length := by omega
     rw [List.take_length] at hown
     have b1 := hK.blk (by omega : ¬ x = y) B1
     have b2 := hK.blk (by omega : ¬ x + 1 = y) B2
     have b3 := hK.blk (by omega : ¬ x + 1 + 1 = y) B3
     have hFr : ∀ k, (F k ∨ k = x + 1 + 1 ∨ k = y) → k < wr.heap.size := fun j q => Nat.lt_of_lt_of_le (hF4 j q) (hsz4 ▸ hK.size)
     have hAr := Rd.Sl.keep hAy (hK.mono (fun _ _ q => .inr (.inr q)))
     obtain ⟨A6, c6, rfl, hs6⟩ := hown.shut hF4
     (have p0 := bC (b1) 0; have p1 := bC (b1) 1; have p2 := bC (b1) 2; have p3 := bC (b1) 3)
     (have q0 := bC (b2) 0; have q1 := bC (b2) 1; have q2 := bC (b2) 2; have q3 := bC (b2) 3; have q4 := bC (b2) 4; have q5 := bC (b2) 5; have q6 := bC (b2) 6)
     go_wp2_with (fail)
     refine (rowsC _ Ax cx s hs A6 c6 parts wr hAr hs6 hn hN (fun y hy => (ho y hy).2) hFr).mono ?_; rintro e w7 ⟨A7, c7, rfl, hs7, hE7⟩
     clear p0 p1 p2 p3 q0 q1 q2 q3 q4 q5 q6
     replace b1 := hE7.blk b1
     replace b2 := hE7.blk b2
     replace b3 := hE7.blk b3
     replace hB := hE7.blk hB
     have hE47 : Keep (fun j => j = y) w4 w7 := hK.trans (hE7.keep _)
     (have p0 := bC (b1) 0; have p1 := bC (b1) 1; have p2 := bC (b1) 2; have p3 := bC (b1) 3)
     (have q0 := bC (b2) 0; have q1 := bC (b2) 1; have q2 := bC (b2) 2; have q3 := bC (b2) 3; have q4 := bC (b2) 4; have q5 := bC (b2) 5; have q6 := bC (b2) 6)
     go_wp2_with (fail)
     refine (foldC _ Ax cx s hs A7 c7 _ w7 (Rd.Sl.ext hAr hE7) hs7 (by omega) hmr (FExt hFr hE7)).mono ?_; rintro e w8 ⟨A8, c8, rfl, hs8, hE8⟩
     clear p0 p1 p2 p3 q0 q1 q2 q3 q4 q5 q6
     replace b1 := hE8.blk b1
     replace b2 := hE8.blk b2
     replace b3 := hE8.blk b3
     replace hB := hE8.blk hB
     have hfl8 := foldS_len s (mergeR (cmpS s) parts)
     (have p0 := bC (b1) 0; have p1 := bC (b1) 1; have p2 := bC (b1) 2; have p3 := bC (b1) 3)
     (have q0 := bC (b2) 0; have q1 := bC (b2) 1; have q2 := bC (b2) 2; have q3 := bC (b2) 3; have q4 := bC (b2) 4; have q5 := bC (b2) 5; have q6 := bC (b2) 6)
     go_wp2_with (fail)
     refine (keep0 _ Ax cx s A8 c8 (foldS s (mergeR (cmpS s) parts)) w8 hs8 (by omega) (FExt (FExt hFr hE7) hE8)).mono ?_; rintro e w9 ⟨A9, c9, rfl, hs9, hE9⟩
     clear p0 p1 p2 p3 q0 q1 q2 q3 q4 q5 q6
     have hB9 := hE9.blk hB
     have b19 := hE9.blk b1
     have b29 := hE9.blk b2
     have b39 := hE9.blk b3
     have hfr := foldS_rows (s := s) (mergeR (cmpS s) parts) hmr
     have hF9 := FExt (FExt (FExt hFr hE7) hE8) hE9
     have hA9 := Rd.Sl.ext (Rd.Sl.ext (Rd.Sl.ext hAr hE7) hE8) hE9
     have hq9 := ((((hqy.keep (hK.mono (fun _ _ q => .inr (.inr q)))).ext hE7).ext hE8).ext hE9)
     have HAG := As.mk (aggRowsC _ Ax cx s HTS.out Aq cq A9 c9 (foldS s (mergeR (cmpS s) parts)) w9 hA9 hq9 hs9 (by omega) hfr hF9)
     clear hA9 hq9 hs9 hfr
     (have p0 := bC (b19) 0; have p1 := bC (b19) 1; have p2 := bC (b19) 2; have p3 := bC (b19) 3)
     (have q0 := bC (b29) 0; have q1 := bC (b29) 1; have q2 := bC (b29) 2; have q3 := bC (b29) 3; have q4 := bC (b29) 4; have q5 := bC (b29) 5; have q6 := bC (b29) 6)
     go_wp2_with (fail)
     refine HAG.out.mono ?_; rintro e w10 ⟨A10, c10, rfl, hs10, hE10⟩
     clear p0 p1 p2 p3 q0 q1 q2 q3 q4 q5 q6
     have hB10 := hE10.blk hB9
     have b310 := hE10.blk b39
     (have y0 := bC (hB10) 0; have yf0 := bF (hB10) 0; have y1 := bC (hB10) 1; have yf1 := bF (hB10) 1; have y2 := bC (hB10) 2; have yf2 := bF (hB10) 2)
     (have z0 := bC (b310) 0; have zf0 := bF (b310) 0; have z1 := bC (b310) 1; have zf1 := bF (b310) 1; have z2 := bC (b310) 2; have zf2 := bF (b310) 2)
     have hxy : ¬ x + 1 + 1 = y := by omega
     have hyx' : ¬ y = x + 1 + 1 := by omega
     go_wp2_with (fail)
     have KY := kS1 w10 y 1 (.slice A10 2 c10)
     have s0 := bS (KY.blk hxy b310) 0 (.slice none 0 0)
     have s1 := bS s0 1 (.slice A10 2 c10)
     have s2 := bS s1 2 (.int .i64 n)
     (have e0 := bC (s2) 0; have e1 := bC (s2) 1; have e2 := bC (s2) 2)
     (try simp only [Exit.inBlock, Exit.then])
     refine bodyPost_ret (v := .tuple #[.agg #[.slice none 0 0, .slice A10 2 c10, .int .i64 n], .int .i64 0]) (by simp [results, Tryz.results49, go_sem, e0, e1, e2]) rfl ?_
     have K3 := ((kS1 (w10.setCell ⟨y, 1, none⟩ (.slice A10 2 c10)) (x + 1 + 1) 0 (.slice none 0 0)).trans (kS1 _ (x + 1 + 1) 1 (.slice A10 2 c10))).trans (kS1 _ (x + 1 + 1) 2 (.int .i64 n))
     have KA := KY.or K3
     exact ⟨A10, c10, n, rfl, (hs10.keep (KA.mono (fun j _ q => q.elim (fun q => .inr (.inr q)) (fun q => .inr (.inl q))))).narrow (by decide) (fun j _ q => .inl q), hE04.keepNew ((((hE47.post hE8).post hE9).post hE10).or KA) (fun j q => by rcases q with q | q | q <;> omega)⟩
theorem queryAC (F : Nat → Prop) (tg dg mg : Nat) (pv : Value) (S : StM) (hs : S.s.Ok) (w : World) (hts : S.s.types = [1, 2]) (Aq : Option Addr) (cq : Nat) (hq : rdPr.Sl F w Aq cq two) (h : StoreAt F w tg dg mg pv S) (hn : S.parts.length ≤ 1000) (hN : S.parts.flatten.length ≤ 100000) (ho : ∀ x ∈ S.parts, Srt (cmpS S.s) x ∧ ∀ r ∈ x, RowOk S.s r) (hF : ∀ k, F k → k < w.heap.size) :
   Calls Tryz.prog 21 #[PX tg, q1V Aq cq] w fun e w' => ∃ (A' : Option Addr) (c' : Nat) (n : Int), e = .returned (.tuple #[.agg #[.slice none 0 0, .slice A' 2 c', .int .i64 n], .int .i64 0]) ∧ rdCell.Sl F w' A' c' [accR f1 (told S.s true S.parts), accR f2 (told S.s true S.parts)] ∧ Ext w w' := by
 have HTS := As.mk hts
 clear hts
 obtain ⟨x, hx⟩ : ∃ x, w.heap.size = x := ⟨_, rfl⟩
 obtain ⟨Ap, cp, hpv, hsl⟩ := h.sl
 have hlt := SFlt h hF
 obtain ⟨A1, c1, Ai, ci, hb, hA, _⟩ := h.at_
 rw [hpv] at hb
 have hE1 := ((Ext.refl w).alloc (.cells #[.bool false, .bool false, .slice none 0 0, .slice none 0 0, .bool true, .slice none 0 0, .slice Aq 2 cq] 75)).alloc (.cells #[.slice none 0 0, .slice none 0 0, .int .i64 0] 67)
 have B1 := bO2 (o' := .cells #[.slice none 0 0, .slice none 0 0, .int .i64 0] 67) (bN w (.cells #[.bool false, .bool false, .slice none 0 0, .slice none 0 0, .bool true, .slice none 0 0, .slice Aq 2 cq] 75))
 have B2 := bN (w.alloc (.cells #[.bool false, .bool false, .slice none 0 0, .slice none 0 0, .bool true, .slice none 0 0, .slice Aq 2 cq] 75)) (.cells #[.slice none 0 0, .slice none 0 0, .int .i64 0] 67)
 rw [World.size_alloc] at B2
 have htl := blk_lt hb
 go_enter Tryz.func21, Tryz.ntmps21
 go_wp2_with (fail)
 generalize (w.alloc (.cells #[.bool false, .bool false, .slice none 0 0, .slice none 0 0, .bool true, .slice none 0 0, .slice Aq 2 cq] 75)).alloc (.cells #[.slice none 0 0, .slice none 0 0, .int .i64 0] 67) = w1 at *
 rw [hx] at B1 B2 htl hlt
 have hb1 := hE1.blk hb
 have hF1 : ∀ k, (F k ∨ k = x + 1) → k < w1.heap.size := fun k q => q.elim (fun q => by have := hF k q; have := hE1.size; omega) (fun q => by have := blk_lt B2; omega)
 have hA1 : SchAt (fun k => F k ∨ k = x + 1) w1 A1 c1 S.s := Rd.Sl.ext (Rd.Sl.narrow Nat.one_pos hA (fun k hk q => q.elim (fun q => .inl (.inl (.inl q))) (fun q => by omega))) hE1
 have hp1 : (rdPart S.s).Sl (fun k => F k ∨ k = x + 1) w1 Ap cp S.parts := Rd.Sl.ext (Rd.Sl.narrow Nat.one_pos hsl (fun k hk q => q.elim (fun q => .inl (.inl q)) (fun q => by omega))) hE1
 have hq1 : rdPr.Sl (fun k => F k ∨ k = x + 1) w1 Aq cq two := (hq.narrow (by decide) (fun k hk q => q.elim id (fun q => by omega))).ext hE1
 have hrun := fun W (hW : Ext w1 W) => runAC _ A1 c1 S.s hs Ap cp S.parts W HTS.out Aq cq (hq1.ext hW) (Rd.Sl.ext hA1 hW) (hp1.ext hW) hn hN ho (FExt hF1 hW)
 (have p0 := bC (hb1) 0; have p1 := bC (hb1) 1; have p2 := bC (hb1) 2; have p3 := bC (hb1) 3; have p4 := bC (hb1) 4; have p5 := bC (hb1) 5; have p6 := bC (hb1) 6; have p7 := bC (hb1) 7; have p8 := bC (hb1) 8)
 (have q0 := bC (B1) 0; have q1 := bC (B1) 1; have q2 := bC (B1) 2; have q3 := bC (B1) 3; have q4 := bC (B1) 4; have q5 := bC (B1) 5; have q6 := bC (B1) 6)
 (have r0 := bC (B2) 0; have rf0 := bF (B2) 0; have r1 := bC (B2) 1; have rf1 := bF (B2) 1; have r2 := bC (B2) 2; have rf2 := bF (B2) 2)
 clear h hsl hA hq hq1
 go_region_law (first | (go_simp; go_at_call 49; with_reducible refine Calls.mono (hrun _ ?_) ?_; exact XE; rintro e w2 ⟨A2, c2, n, rfl, hs2, hE2⟩; have hx2 := Ext.trans (a := w1) XE hE2; (have z0 := bC (hx2.blk B2) 0; have zf0 := bF (hx2.blk B2) 0; have z1 := bC (hx2.blk B2) 1; have zf1 := bF (hx2.blk B2) 1; have z2 := bC (hx2.blk B2) 2; have zf2 := bF (hx2.blk B2) 2); dsimp only))
 all_goals
   (try simp only [Exit.inBlock, Exit.then])
   go_wp2_with (fail)
   have s0 := bS (hx2.blk B2) 0 (.slice none 0 0)
   have s1 := bS s0 1 (.slice A2 2 c2)
   have s2 := bS s1 2 (.int .i64 n)
   have K3 := ((kS1 w2 (x + 1) 0 (.slice none 0 0)).trans (kS1 _ (x + 1) 1 (.slice A2 2 c2))).trans (kS1 _ (x + 1) 2 (.int .i64 n))
   (have e0 := bC (s2) 0; have e1 := bC (s2) 1; have e2 := bC (s2) 2)
   (try simp only [Exit.inBlock, Exit.then])
   refine bodyPost_ret (v := .tuple #[.agg #[.slice none 0 0, .slice A2 2 c2, .int .i64 n], .int .i64 0]) (by simp [results, Tryz.results21, go_sem, e0, e1, e2]) rfl ?_
   refine ⟨A2, c2, n, rfl, ?_, ?_⟩
   · first | exact (hs2.keep (K3.mono (fun _ _ q => .inr q))).narrow (by decide) (fun j _ q => .inl q) | exact ((hs2.keep (K3.mono (fun _ _ q => .inr q))).narrow (by decide) (fun j _ q => .inl q)).ext ((Ext.refl _).drew)
   · first | exact (hE1.trans hx2).keepNew K3 (fun j q => by omega) | exact ((hE1.trans hx2).keepNew K3 (fun j q => by omega)).drew
end K120
namespace K122
open Go Go.RowKit
open KB KB2 P2 K1 K2 K3 K42 K62 K70 K65 K71 K72 K75 K35 K88 K89 K90 K91 K92 K93
open K115 K116 K119 K120 K121
theorem cellCountC (db : Nat) (s : ByteArray) (n : Int) (w : World) (h : Says w 1 s n) :
   Calls Tryz.prog 194 #[.pointer (some ⟨db, 0, none⟩), .agg #[.int .i64 1, .int .i64 0], cellV n] w fun e w' => e = .returned (.string s) ∧ Ext w w' := by
 have B0 := bO2 (o' := .cells #[.bool true, .int .i64 n, .string emp] 35) (bN w (.cells #[.int .i64 1, .int .i64 0] 274))
 have B1 := bN (w.alloc (.cells #[.int .i64 1, .int .i64 0] 274)) (.cells #[.bool true, .int .i64 n, .string emp] 35)
 have hE := ((Ext.refl w).alloc (.cells #[.int .i64 1, .int .i64 0] 274)).alloc (.cells #[.bool true, .int .i64 n, .string emp] 35)
 simp only [World.size_alloc] at B1
 have HT := As.mk (textC 1 s n _ (h.ext hE))
 clear h
 go_enter Tryz.func194, Tryz.ntmps194
 go_upto_region 1 with (fail)
 generalize (w.alloc (.cells #[.int .i64 1, .int .i64 0] 274)).alloc (.cells #[.bool true, .int .i64 n, .string emp] 35) = w1 at *
 (have p0 := bC (B0) 0; have p1 := bC (B0) 1)
 (have q0 := bC (B1) 0; have q1 := bC (B1) 1; have q2 := bC (B1) 2)
 go_wp2_with (fail)
 refine HT.out.mono ?_; rintro e w2 ⟨rfl, hE2⟩
 go_wp2_with (fail)
 go_ret
 exact ⟨rfl, hE.trans hE2⟩
theorem cellSumC (F : Nat → Prop) (db dg : Nat) (tv : Value) (Ad : Option Addr) (cd : Nat) (sc : Sch) (hts : sc.types = [1, 2]) (s : ByteArray) (n : Int) (w : World) (hb : w.heap[db]? = some (.cells (dkCells dg tv Ad cd sc) 118 (0, 0))) (hA : SchAt F w Ad cd sc) (h : Says w 2 s n) :
   Calls Tryz.prog 194 #[.pointer (some ⟨db, 0, none⟩), .agg #[.int .i64 2, .int .i64 1], cellV n] w fun e w' => e = .returned (.string s) ∧ Ext w w' := by
 have hn2 : sc.types.length = 2 := by rw [hts]; rfl
 have hA0 : (rdInt .i64).Sl F w Ad cd sc.types := hA
 obtain ⟨tb, o3, rfl, ht1⟩ := int_get hA0 (k := 1) (by omega)
 have e1 : sc.types[1]'(by omega) = 2 := by simp [hts]
 rw [e1] at ht1
 have B0 := bO2 (o' := .cells #[.bool true, .int .i64 n, .string emp] 35) (bN w (.cells #[.int .i64 2, .int .i64 1] 274))
 have B1 := bN (w.alloc (.cells #[.int .i64 2, .int .i64 1] 274)) (.cells #[.bool true, .int .i64 n, .string emp] 35)
 have hE := ((Ext.refl w).alloc (.cells #[.int .i64 2, .int .i64 1] 274)).alloc (.cells #[.bool true, .int .i64 n, .string emp] 35)
 simp only [World.size_alloc] at B1
 replace hb := hE.blk hb
 replace ht1 := hE.cell ht1
 have HT := As.mk (fun W (hW : Ext ((w.alloc (.cells #[.int .i64 2, .int .i64 1] 274)).alloc (.cells #[.bool true, .int .i64 n, .string emp] 35)) W) => textC 2 s n W (h.ext (hE.trans hW)))
 clear h hA hA0 hts e1
 unfold dkCells at hb
 rw [hn2] at hb
 go_enter Tryz.func194, Tryz.ntmps194
 go_upto_region 1 with (fail)
 generalize (w.alloc (.cells #[.int .i64 2, .int .i64 1] 274)).alloc (.cells #[.bool true, .int .i64 n, .string emp] 35) = w1 at *
 (have p0 := bC (B0) 0; have p1 := bC (B0) 1)
 (have q0 := bC (B1) 0; have q1 := bC (B1) 1; have q2 := bC (B1) 2)
 (have r0 := bC (hb) 0; have r1 := bC (hb) 1; have r2 := bC (hb) 2)
 go_wp2_with (fail)
 go_still_tail 11, (by kernel_rfl)
 change wpList _ _ _ _ _ w1.drew
 go_wp2_with (fail)
 refine (HT.out _ (Ext.refl _).drew).mono ?_; rintro e w2 ⟨rfl, hE2⟩
 go_wp2_with (fail)
 go_ret
 exact ⟨rfl, hE.trans (Ext.trans (Ext.refl _).drew hE2)⟩
theorem getAC (F : Nat → Prop) (db dg mg tg : Nat) (pv : Value) (S : StM) (hs : S.s.Ok) (w : World) (h : StoreAt F w tg dg mg pv S) (Ad : Option Addr) (cd : Nat) (hb : w.heap[db]? = some (.cells (dkCells dg (PX tg) Ad cd S.s) 118 (0, 0))) (hA : SchAt F w Ad cd S.s)
   (hn : S.parts.length ≤ 1000) (hN : S.parts.flatten.length ≤ 100000) (ho : ∀ x ∈ S.parts, Srt (cmpS S.s) x ∧ ∀ r ∈ x, RowOk S.s r) (Aw : Option Addr) (cw : Nat) (hw : rdStr.Sl F w Aw cw [finalB, countB, sumC, oneB]) (hts : S.s.types = [1, 2]) (hs1 : ∀ W, Says W 1 oneB (1 : Nat)) (na nb : Int) (hc1 : accR f1 (told S.s true S.parts) = na) (hc2 : accR f2 (told S.s true S.parts) = nb) (s1 s2 : ByteArray) (hsa : Says w 1 s1 na) (hsb : Says w 2 s2 nb) (hjl : (joinL [s1, s2] ⟨#[32]⟩).length ≤ 1000000000)
   (hF : ∀ k, F k → k < w.heap.size) :
   Calls Tryz.prog 109 #[.pointer (some ⟨db, 0, none⟩), .slice Aw 4 cw] w fun e w' => e = .returned (.string (BA (joinL [s1, s2] ⟨#[32]⟩))) ∧ Ext w w' := by
 have hE1 := (Ext.refl w).alloc (.cells #[.slice Aw 4 cw, .bool false] 271)
 have hB1 := bN w (.cells #[.slice Aw 4 cw, .bool false] 271)
 have hw1 : WordsAt F (w.alloc (.cells #[.slice Aw 4 cw, .bool false] 271)) w.heap.size [finalB, countB, sumC, oneB] := ⟨Aw, cw, hB1, fun q => absurd (hF _ q) (Nat.lt_irrefl _), Rd.Sl.ext (hw.narrow (by decide) (fun j hj q => q.elim id (fun q => by omega))) hE1⟩
 have hdl := blk_lt hb
 have HQ := As.mk (queryWC F w.heap.size _ hw1 Ad cd S.s (by rw [hts]; decide) hs1 (FExt hF hE1))
 have HTS := As.mk hts
 clear hts
 (have p0 := bC (hb) 0; have p1 := bC (hb) 1; have p2 := bC (hb) 2; have p3 := bC (hb) 3; have p4 := bC (hb) 4; have p5 := bC (hb) 5)
 clear hw1 hB1
 go_enter Tryz.func109, Tryz.ntmps109
 go_wp2_with (fail)
 refine HQ.out.mono ?_; rintro e w2 ⟨Aq, cq, rfl, hsq, hw2, k2⟩
 have hE2 := Ext.keepNew hE1 k2 (fun j q => by omega)
 obtain ⟨A2, c2, hbw, -⟩ := id hw2
 have B3 := bN w2 (.cells #[.bool false, .bool false, .slice none 0 0, .slice none 0 0, .bool true, .slice none 0 0, .slice Aq 2 cq] 75)
 have hE3 := hE2.alloc (.cells #[.bool false, .bool false, .slice none 0 0, .slice none 0 0, .bool true, .slice none 0 0, .slice Aq 2 cq] 75)
 have hEq := (Ext.refl w2).alloc (.cells #[.bool false, .bool false, .slice none 0 0, .slice none 0 0, .bool true, .slice none 0 0, .slice Aq 2 cq] 75)
 have hbw3 := ((Ext.refl w2).alloc (.cells #[.bool false, .bool false, .slice none 0 0, .slice none 0 0, .bool true, .slice none 0 0, .slice Aq 2 cq] 75)).blk hbw
 clear p0 p1 p2 p3 p4 p5 hbw HQ hw2 k2
 (have q0 := bC (hbw3) 0; have qf0 := bF (hbw3) 0; have q1 := bC (hbw3) 1; have qf1 := bF (hbw3) 1)
 go_upto_region 5 with (fail)
 generalize w2.alloc (.cells #[.bool false, .bool false, .slice none 0 0, .slice none 0 0, .bool true, .slice none 0 0, .slice Aq 2 cq] 75) = w3 at *
 obtain ⟨y, hy⟩ : ∃ y, w2.heap.size = y := ⟨_, rfl⟩
 rw [hy] at B3 ⊢
 have hyl : w.heap.size ≤ y := by rw [← hy]; exact hE2.size
 clear hy
 have hdb3 := hE3.blk hb
 have hrun := fun W (hW : Ext w3 W) => queryAC F tg dg mg pv S hs W HTS.out Aq cq ((hsq.ext hEq).ext hW) ((h.ext hE3).ext hW) hn hN ho (FExt hF (hE3.trans hW))
 have HRUN := As.mk hrun
 have hw3a := (Ext.refl w3).alloc (.cells #[.slice none 0 0, .slice none 0 0, .int .i64 0] 67)
 have hrun2 := fun W (hW : Ext (w3.alloc (.cells #[.slice none 0 0, .slice none 0 0, .int .i64 0] 67)) W) => queryAC (fun k => F k ∨ k = w3.heap.size) tg dg mg pv S hs W HTS.out Aq cq ((((hsq.ext hEq).narrow (by decide) (fun k hk q => q.elim id (fun q => by omega))).ext hw3a).ext hW) (((store_narrow (G := fun k => F k ∨ k = w3.heap.size) (h.ext hE3) (fun k hk q => q.elim id (fun q => by omega))).ext hw3a).ext hW) hn hN ho (fun k q => q.elim (FExt hF ((hE3.trans hw3a).trans hW) k) (fun q => by have h1 := hW.size; rw [World.size_alloc] at h1; omega))
 have HRUN2 := As.mk hrun2
 clear hrun hrun2 hw3a q0 qf0 q1 qf1
 (have p0 := bC (hdb3) 0; have p1 := bC (hdb3) 1; have p2 := bC (hdb3) 2; have p3 := bC (hdb3) 3; have p4 := bC (hdb3) 4; have p5 := bC (hdb3) 5)
 (have q0 := bC (B3) 0; have q1 := bC (B3) 1; have q2 := bC (B3) 2; have q3 := bC (B3) 3; have q4 := bC (B3) 4; have q5 := bC (B3) 5; have q6 := bC (B3) 6)
 have hEa := (Ext.refl w3).alloc (.cells #[.slice none 0 0, .slice none 0 0, .int .i64 0] 67)
 have hdba := hEa.blk hdb3
 have B3a := hEa.blk B3
 (have pa0 := bC (hdba) 0; have pa1 := bC (hdba) 1; have pa2 := bC (hdba) 2; have pa3 := bC (hdba) 3; have pa4 := bC (hdba) 4; have pa5 := bC (hdba) 5)
 (have qa0 := bC (B3a) 0; have qa1 := bC (B3a) 1; have qa2 := bC (B3a) 2; have qa3 := bC (B3a) 3; have qa4 := bC (B3a) 4; have qa5 := bC (B3a) 5; have qa6 := bC (B3a) 6)
 go_cut [7, 8] (fun r e wx => ∃ zb A4 c4 n4, r = PX zb ∧ e = .int .i64 0 ∧ wx.heap[zb]? = some (.cells #[.slice none 0 0, .slice A4 2 c4, .int .i64 n4] 67 (0, 0)) ∧ rdCell.Sl F wx A4 c4 [na, nb] ∧ Ext w3 wx)
 case first =>
   go_region_law (first | (go_simp; go_at_call 21; with_reducible refine Calls.mono (HRUN2.out _ ?_) ?_; (first | exact Ext.refl _ | exact (Ext.refl _).drew); rintro e w4 ⟨A4, c4, n4, rfl, hs4, hE4⟩; have hx4 := Ext.trans (a := w3) XE hE4; have B4 := hE4.blk (bN w3 (.cells #[.slice none 0 0, .slice none 0 0, .int .i64 0] 67)); (have z0 := bC (B4) 0; have zf0 := bF (B4) 0; have z1 := bC (B4) 1; have zf1 := bF (B4) 1; have z2 := bC (B4) 2; have zf2 := bF (B4) 2); dsimp only) | (go_simp; go_at_call 21; with_reducible refine Calls.mono (HRUN.out _ ?_) ?_; exact XE; rintro e w4 ⟨A4, c4, n4, rfl, hs4, hE4⟩; have hx4 := Ext.trans (a := w3) XE hE4; have B4 := bN w4 (.cells #[.slice none 0 0, .slice none 0 0, .int .i64 0] 67); (have z0 := bC (B4) 0; have zf0 := bF (B4) 0; have z1 := bC (B4) 1; have zf1 := bF (B4) 1; have z2 := bC (B4) 2; have zf2 := bF (B4) 2); dsimp only))
   all_goals
     (try simp only [Exit.inBlock, Exit.then])
     go_wp2_with (fail)
     go_meet
     first
       | exact ⟨w4.heap.size, A4, c4, n4, rfl, rfl, bN _ _, by rw [← hc1, ← hc2]; exact hs4.ext ((Ext.refl _).alloc _), hx4.alloc _⟩
       | (have s0 := bS B4 0 (.slice none 0 0); have s1 := bS s0 1 (.slice A4 2 c4); have s2 := bS s1 2 (.int .i64 n4); have K3 := ((kS1 w4 w3.heap.size 0 (.slice none 0 0)).trans (kS1 _ w3.heap.size 1 (.slice A4 2 c4))).trans (kS1 _ w3.heap.size 2 (.int .i64 n4)); refine ⟨w3.heap.size, A4, c4, n4, rfl, rfl, (by first | exact s2 | exact (Ext.refl _).drew.blk s2), (by rw [← hc1, ← hc2]; have q := (hs4.keep (K3.mono (fun _ _ q => .inr q))).narrow (by decide) (fun j _ q => .inl q); first | exact q | exact Rd.Sl.ext q (Ext.refl _).drew), (by have q := hx4.keepNew K3 (fun j q => Nat.le_of_eq q.symm); first | exact q | exact q.drew)⟩)
 case rest =>
   obtain ⟨zb, A4, c4, n4, rfl, rfl, hz, hs4, hE4⟩ := hcut
   generalize wc = w5 at *
   have hE05 := hE3.trans hE4
   have hdb5 := hE4.blk hdb3
   have B5 := hE4.blk B3
   have hA5 := Rd.Sl.ext hA hE05
   have hF5 := FExt hF hE05
   have HDB := As.mk hdb5
   have HJL := As.mk hjl
   have hsq5 := (hsq.ext hEq).ext hE4
   clear p0 p1 p2 p3 p4 p5 q0 q1 q2 q3 q4 q5 q6 pa0 pa1 pa2 pa3 pa4 pa5 qa0 qa1 qa2 qa3 qa4 qa5 qa6 hjl hb hdb3 hdba B3 B3a hEa h hw hsq
   (have q0 := bC (B5) 0; have q1 := bC (B5) 1; have q2 := bC (B5) 2; have q3 := bC (B5) 3; have q4 := bC (B5) 4; have q5 := bC (B5) 5; have q6 := bC (B5) 6)
   (have z0 := bC (hz) 0; have z1 := bC (hz) 1; have z2 := bC (hz) 2)
   obtain ⟨bq, oq, rfl, a0, a1⟩ := pr_get hsq5 (k := 0) (by decide)
   obtain ⟨bq', oq', e, a2, a3⟩ := pr_get hsq5 (k := 1) (by decide)
   cases e
   obtain ⟨bc, oc, rfl, d0, d1, d2⟩ := cell_get hs4 (k := 0) (Nat.zero_lt_succ _)
   obtain ⟨bc', oc', e, d3, d4, d5⟩ := cell_get hs4 (k := 1) (Nat.succ_lt_succ (Nat.zero_lt_succ _))
   cases e
   obtain ⟨L2, hL2⟩ : ∃ L2, [s1, s2] = L2 := ⟨_, rfl⟩
   have hpk : ∀ k, k < 2 → ∃ (kd col n : Int) (ss : ByteArray), w5.cell? ⟨bq, oq + k * 2, none⟩ = some (.int .i64 kd) ∧ w5.cell? ⟨bq, oq + k * 2 + 1, none⟩ = some (.int .i64 col) ∧ w5.cell? ⟨bc, oc + k * 3, none⟩ = some (.bool true) ∧ w5.cell? ⟨bc, oc + k * 3 + 1, none⟩ = some (.int .i64 n) ∧ w5.cell? ⟨bc, oc + k * 3 + 2, none⟩ = some (.string emp) ∧ (∀ W, Ext w5 W → Calls Tryz.prog 194 #[.pointer (some ⟨db, 0, none⟩), .agg #[.int .i64 kd, .int .i64 col], cellV n] W fun e w' => e = .returned (.string ss) ∧ Ext W w') ∧ L2.take (k + 1) = L2.take k ++ [ss] := by
     intro k hk
     match k, hk with
     | 0, _ => exact ⟨1, 0, na, s1, a0, a1, d0, d1, d2, fun W hW => cellCountC db s1 na W (hsa.ext (hE05.trans hW)), by rw [← hL2]; rfl⟩
     | 1, _ => exact ⟨2, 1, nb, s2, a2, a3, d3, d4, d5, fun W hW => cellSumC F db dg (PX tg) Ad cd S.s HTS.out s2 nb W (hW.blk HDB.out) (Rd.Sl.ext hA5 hW) (hsb.ext (hE05.trans hW)), by rw [← hL2]; rfl⟩
   have HPK := As.mk hpk
   have HL2 := As.mk hL2
   have HZ := As.mk hz
   rw [hL2] at HJL
   clear hpk hL2 a0 a1 a2 a3 d0 d1 d2 d3 d4 d5 hsq5 hs4
   (have q0 := bC (B5) 0; have q1 := bC (B5) 1; have q2 := bC (B5) 2; have q3 := bC (B5) 3; have q4 := bC (B5) 4; have q5 := bC (B5) 5; have q6 := bC (B5) 6)
   go_wp2_with (fail)
   clear q0 q1 q2 q3 q4 q5 q6 B5 hz
   go_loopw [9, 47] (fun v i wr => ∃ k : Nat, i = .int .i64 k ∧ k ≤ 2 ∧ rdStr.Own F w5.heap.size 9 wr v (L2.take k) ∧ Ext w5 wr) (fun _ i _ => 2 - (intOf i).toNat)
   case atStart => exact ⟨0, by go_num, Nat.zero_le _, Rd.Own.nil _ _ _ _ _, Ext.refl _⟩
   case round =>
     obtain ⟨k, rfl, hk, hown, hE⟩ := hrel
     by_cases hk2 : k < 2
     · obtain ⟨kd, col, n, ss, a0, a1, d0, d1, d2, hc, htk⟩ := HPK.out k hk2
       have HC := As.mk hc
       have HTK := As.mk htk
       clear hc htk
       have hfk : As ((L2.take k).length = k) := ⟨by rw [List.length_take, ← HL2.out]; show min k 2 = k; omega⟩
       have hki : ((k : Nat) : Int) < 2 := by omega
       replace a0 := hE.cell a0
       replace a1 := hE.cell a1
       have Xa := (Ext.refl wr).alloc (.cells #[.int .i64 kd, .int .i64 col] 274)
       have D0 := bN wr (.cells #[.int .i64 kd, .int .i64 col] 274)
       go_upto_region 13 with (fail)
       have hEx := hE.trans Xa
       have hzr := hEx.blk HZ.out
       have hownx := hown.ext Xa
       replace d0 := hEx.cell d0
       replace d1 := hEx.cell d1
       replace d2 := hEx.cell d2
       clear a0 a1 Xa hown hE HPK HZ
       generalize wr.alloc (.cells #[.int .i64 kd, .int .i64 col] 274) = w6 at *
       obtain ⟨ya, hya⟩ : ∃ ya, wr.heap.size = ya := ⟨_, rfl⟩
       rw [hya] at D0 ⊢
       clear hya
       (have p0 := bC (D0) 0; have p1 := bC (D0) 1)
       (have z0 := bC (hzr) 0; have z1 := bC (hzr) 1; have z2 := bC (hzr) 2)
       have hwB := hEx.size
       obtain ⟨pre, hpre⟩ : ∃ pre, L2.take k = pre := ⟨_, rfl⟩
       rw [hpre] at hownx hfk HTK
       clear hpre
       go_wp2_with (fail)
       go_region_law (first | (go_simp; go_at_call 194; with_reducible refine Calls.mono (HC.out _ ?_) ?_; exact XE; rintro e w7 ⟨rfl, hE7⟩; have hx7 := Ext.trans (a := w6) XE hE7; dsimp only) | (refine step_pushAt rfl (.tmp 52) (.tmp 61) 126 rfl rdStr elStr (by rfl) (hownx.ext XE) (by rfl) (by exact heap_alloc_new _ _) (y := ss) rfl (by rw [hfk.out]; omega) (by rw [hfk.out]; unfold maxLen; omega) (Nat.le_trans hwB (Ext.size (w := w6) XE)) ?_; intro v' w8 hown8 hg8 hat8))
       all_goals
         (try simp only [Exit.inBlock, Exit.then])
         have hE8 : Ext w5 w8 := Ext.grown (w := w5) (Ext.trans (b := w6) hEx XE) hg8 (fun q hq => (hownx.ge q hq).1)
         rw [← HTK.out] at hown8
         go_wp2_with (fail)
         go_roundw
         case rel => exact ⟨k + 1, by go_num, by omega, hown8, hE8⟩
         case measure => simp [intOf] <;> omega
     · obtain rfl : k = 2 := by omega
       have hfin : L2.take 2 = L2 := by rw [← HL2.out]; rfl
       rw [hfin] at hown
       clear hfin
       obtain ⟨Az, cz, rfl, hsl⟩ := hown.shut hF5
       have HJ := As.mk (joinC F Az cz L2 ⟨#[32]⟩ wr hsl (by rw [← HL2.out]; show 2 ≤ 1000000; omega) HJL.out)
       clear hsl hown
       go_wp2_with (fail)
       refine HJ.out.mono ?_; rintro e w9 ⟨rfl, hE9⟩
       go_wp2_with (fail)
       go_ret
       exact ⟨by rw [HL2.out]; rfl, hE05.trans (hE.trans hE9)⟩
end K122
end Go.Proofs.YtbjeejimedhniaaGreatDoor
