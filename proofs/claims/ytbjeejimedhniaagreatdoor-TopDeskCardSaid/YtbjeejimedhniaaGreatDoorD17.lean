/- Contracts of the program's functions, as the walks of the law use them. -/
import Derived.Test.YtbjeejimedhniaaGreatDoorD16
import Derived.Shelf.SlMaps.Clone
import Derived.Shelf.SlIter.Collect
import Derived.RangeFuncStops
import Derived.RangeFuncNested
import Derived.RangeFuncBound
import Derived.RangeFuncCalls
import Derived.RangeFuncLeaves
import Derived.RangeFuncBox
import Derived.Shelf.RegionOpen
import Derived.Shelf.SlSortCmp.WholeK
import Derived.Shelf.SlSortCmp.NoneTotal
set_option linter.unusedVariables false
set_option linter.unusedSimpArgs false
set_option maxRecDepth 100000
set_option maxHeartbeats 2000000
namespace Go.Proofs.YtbjeejimedhniaaGreatDoor
namespace K43
open Go Go.RowKit Go.Maps
open KB KB2 KB3 K1 K6 K7 K29 P5 K33 K34 K35 K36 K37 K38 K39 K40 K41 K42
theorem sync1C (F : Nat → Prop) (dg mg : Nat) (D : Dsk) (w : World) (h : DiskAt F w dg mg D) (n : ByteArray) (hn20 : n.size ≤ 20) (i : Nat) (hi : getA n D.M = some i) (fb : List Int) (fs : Int) (hf : D.files[i]? = some (fb, fs))
   (xb nb : Nat) (hxb : w.heap[xb]? = some (.cells #[BX dg] 28 (0, 0))) (hnb : w.heap[nb]? = some (.cells #[.string n] 9 (0, 0))) (hxd : xb ≠ dg) (hF : ∀ k, F k → k < w.heap.size) :
   Calls Tryz.prog 148 #[BX xb, BX nb] w fun e w' => e = .returned (.int .i64 0) ∧ DiskAt F w' dg mg { D with files := D.files.set i (fb, fb.length) } ∧ Keep (Two' dg mg) w w' := by
 have hlt := h.lt
 have hnm : n.size ≤ maxLen := by unfold maxLen; omega
 obtain ⟨fd, fm, le, sl, ql, h8, h9, h10, h11, h12, Af, cff, kg, Ac, cc, chs, K, hb0, h1, h2, h3, h4, h5, h6, h7, h13⟩ := h
 have hil : i < D.files.length := (List.getElem?_eq_some_iff.1 hf).1
 have hfb : fb.length ≤ 10000000 := h12 _ (List.mem_of_getElem? hf)
 have hmd : mg ≠ dg := h3.notCells hb0
 have hkd : kg ≠ dg := h4.notCells hb0
 have hfl0 : (D.files.length : Int) ≤ 100000 := by omega
 have p2 := bC hb0 2
 have pf2 := bF hb0 2
 have keep : ∀ w', Ext w w' → Ext w w' ∧ w'.cell? ⟨dg, 3, none⟩ = some (.map (some mg)) ∧ w'.cell? ⟨xb, 0, none⟩ = some (BX dg) ∧ w'.cell? ⟨nb, 0, none⟩ = some (.string n) ∧ (Instr.lookup 101 (.map (some mg)) (.agg #[.string n]) true).run Tryz.prog w' = .ok (.tuple #[.int .i64 i, .bool true]) w' := fun w' k => ⟨k, k.cell (bC hb0 3), k.cell (bC hxb 0), k.cell (bC hnb 0), by have := (h3.ext k).lookRun n hnm; rw [lookVal, hi] at this; exact this⟩
 obtain ⟨_, c3, x0, m0, hlk⟩ := keep w (Ext.refl w)
 have hclo := fun W (hE : Ext w W) => cloneF (DF F dg mg) Af cff D.files W (h1.ext hE) (by omega) (by omega)
 go_enter Tryz.func148, Tryz.ntmps148
 go_wp2_with (fail)
 go_region_held3 (fun w' => Ext w w' ∧ w'.cell? ⟨dg, 3, none⟩ = some (.map (some mg)) ∧ w'.cell? ⟨xb, 0, none⟩ = some (BX dg) ∧ w'.cell? ⟨nb, 0, none⟩ = some (.string n) ∧ (Instr.lookup 101 (.map (some mg)) (.agg #[.string n]) true).run Tryz.prog w' = .ok (.tuple #[.int .i64 i, .bool true]) w') (((try dsimp only); refine keep _ ?_; first | with_reducible assumption | exact XE)) (fail)
 (try simp only [Exit.inBlock, Exit.then])
 go_wp2_with (fail)
 go_cut [3] (fun s3 wx => s3 = .int .i64 i ∧ ∃ g c', w.heap.size ≤ g ∧ rdFile.Own (DF F dg mg) w.heap.size 216 wx (.slice (some ⟨g, 0, none⟩) D.files.length c') D.files ∧ wx.heap[dg]? = some (.cells (dskCells D.quota D.steps (some ⟨g, 0, none⟩) D.files.length c' mg kg Ac (List.length chs) cc) 104 (0, 0)) ∧ Keep (fun k => k = dg) w wx)
 case first =>
   go_region_law (first | (go_simp; go_at_call 149; refine (hclo _ XE).mono ?_; rintro e w2 ⟨g, c', rfl, hg, hown, hE2⟩; have hE02 := Ext.trans (a := w) XE hE2; have q2 := bC (hE02.blk hb0) 2; have qf2 := bF (hE02.blk hb0) 2; have qx := bC (hE02.blk hxb) 0; dsimp only))
   all_goals
     (try simp only [Exit.inBlock, Exit.then])
     go_wp2_with (fail)
     go_meet
     have hgl := (Rd.Own.ge hown g rfl).2
     have K3 := kS1 w2 dg 2 (.slice (some ⟨g, 0, none⟩) D.files.length c')
     have hgs := Nat.le_trans (Ext.size (w := w) XE) hg
     have hgd : ¬ g = dg := by omega
     have hnF : ¬ DF F dg mg g := fun q => by rcases q with q | q | q; (· have := hF g q; omega); omega; omega
     exact ⟨rfl, g, c', hgs, (hown.lower (Ext.size (w := w) XE)).keep (K3.mono (fun _ _ q => .inr (.inl q))) (fun k hk => by cases hk; exact hnF) (fun k hk => by cases hk; exact K3.block g hgl hgd), bS (hE02.blk hb0) 2 _, (hE02.keep _).trans K3⟩
 case rest =>
   obtain ⟨rfl, g, c', hgs, hown, hb4, kw⟩ := hcut
   have hgl := (Rd.Own.ge hown g rfl).2
   have hgd : ¬ g = dg := by omega
   obtain ⟨cs, hcs, hcel, hfro⟩ := hown.cellj hil
   rw [(List.getElem?_eq_some_iff.1 hf).2] at hcs
   obtain ⟨A2, c2, rfl, hfbs⟩ := hcs
   have r0 : wc.cell? ⟨g, i * 2, none⟩ = some (.slice A2 fb.length c2) := hcel 0 _ rfl
   have r1 : wc.cell? ⟨g, i * 2 + 1, none⟩ = some (.int .i64 fs) := hcel 1 _ rfl
   have rf1 : wc.frozen? ⟨g, i * 2 + 1, none⟩ = false := hfro _
   have r2 := bC hb4 2
   have rx := bC (kw.blk hxd hxb) 0
   have hdw : ∀ wd, Ext wc wd → DiskAt F (wd.setCell ⟨g, i * 2 + 1, none⟩ (.int .i64 fb.length)) dg mg { D with files := D.files.set i (fb, fb.length) } ∧ Keep (Two' dg mg) w (wd.setCell ⟨g, i * 2 + 1, none⟩ (.int .i64 fb.length)) := by
     intro wd hEd
     replace hown := hown.ext hEd
     replace hb4 := hEd.blk hb4
     replace kw := kw.post hEd
     have hgl2 := hEd.size
     have K5 := kS1 wd g (i * 2 + 1) (.int .i64 fb.length)
     have hs5 := hown.setj (i := i) (j := 1) hil (by decide) (u := .int .i64 fb.length) (y := (fb, (fb.length : Int))) (fun cs hcs => by rw [(List.getElem?_eq_some_iff.1 hf).2] at hcs; obtain ⟨A9, c9, rfl, h9⟩ := hcs; exact ⟨A9, c9, rfl, h9⟩)
     obtain ⟨A5, c5, e5, hs5⟩ := hs5.shut (fun k q => by rcases q with q | q | q; (· have := hF k q; omega); omega; omega)
     rw [List.length_set] at e5
     cases e5
     have kvw : Keep (Fv (DF F dg mg) (.slice (some ⟨g, 0, none⟩) D.files.length c')) w wd := kw.mono (fun _ _ q => .inl (.inr (.inl q)))
     have kv5 : Keep (Fv (DF F dg mg) (.slice (some ⟨g, 0, none⟩) D.files.length c')) wd (wd.setCell ⟨g, i * 2 + 1, none⟩ (.int .i64 fb.length)) := K5.mono (fun k _ q => .inr (by rw [q]; rfl))
     have e2 := ((h2.narrow (by decide) (fun k hk q => by rcases q with q | q; (· exact q); (· have e : g = k := (by cases q; rfl); omega)) : rdChg.Sl (Fv (DF F dg mg) (.slice (some ⟨g, 0, none⟩) D.files.length c')) w Ac cc chs).keep kvw).keep kv5
     have hkl := h4.lt
     refine ⟨⟨fd, fm, le, sl, ql, (fun p hp => by rw [List.length_set]; exact h8 p hp), h9, (by rw [List.length_set]; exact h10), h11, (fun f hf' => by rcases List.mem_or_eq_of_mem_set hf' with q | q; (· exact h12 f q); (· rw [q]; exact hfb)), _, _, kg, Ac, cc, chs, K, by rw [List.length_set]; exact K5.blk (fun q => hgd q.symm) hb4, hs5, e2.narrow (by decide) (fun _ _ q => .inl q), (h3.keep kw hmd).keep K5 (by omega), (h4.keep kw hkd).keep K5 (by omega), h5, h6, h7, h13⟩, ?_⟩
     exact (kw.or K5).mono (fun k hk q => by rcases q with q | q; (· exact .inl q); (· omega))
   clear h1 h2 h3 h4 h7 h8 h9 h12 hown hcel hfro hclo keep hf hi
   go_wp2_with (fail)
   go_still_tail 16, (by kernel_rfl)
   change wpList _ _ _ _ _ wc.drew
   go_wp2
   go_ret
   obtain ⟨a1, a2⟩ := hdw wc.drew (Ext.refl wc).drew
   exact ⟨rfl, a1, a2⟩
theorem syncC (F : Nat → Prop) (dg mg : Nat) (D : Dsk) (w : World) (h : DiskAt F w dg mg D) (hl : D.lim + 1 ≤ 100000) (n : ByteArray) (hn20 : n.size ≤ 20) (i : Nat) (hi : getA n D.M = some i) (fb : List Int) (fs : Int) (hf : D.files[i]? = some (fb, fs)) (hF : ∀ k, F k → k < w.heap.size) :
   Calls Tryz.prog 71 #[BX dg, .string n] w fun e w' => e = .returned (.int .i64 0) ∧ DiskAt F w' dg mg { D with steps := D.steps + 1, lim := D.lim + 1, files := D.files.set i (fb, fb.length) } ∧ Keep (Two' dg mg) w w' := by
 have hlt := h.lt
 have hx0 := bN w (.cells #[BX dg] 28)
 have hx := bO2 (o' := .cells #[.string n] 9) hx0
 have hn := bN (w.alloc (.cells #[BX dg] 28)) (.cells #[.string n] 9)
 have hE := ((Ext.refl w).alloc (.cells #[BX dg] 28)).alloc (.cells #[.string n] 9)
 simp only [World.size_alloc] at hn
 clear hx0
 have hstep := stepC F dg mg D _ (h.ext hE) (by omega) 148 141 #[BX w.heap.size, BX (w.heap.size + 1)] #[] (fun w' => DiskAt F w' dg mg { D with steps := D.steps + 1, lim := D.lim + 1, files := D.files.set i (fb, fb.length) } ∧ Keep (Two' dg mg) w w') (fun _ _ => rfl) (fun W hW kW =>
   (sync1C F dg mg _ W hW n hn20 i hi fb fs hf _ _ (kW.blk (by rintro (e | e) <;> omega) hx) (kW.blk (by rintro (e | e) <;> omega) hn) (by omega) (fun k q => Nat.lt_of_lt_of_le (hF k q) (Nat.le_trans hE.size kW.size))).mono fun e w' ⟨h1, h2, h3⟩ => ⟨h1, h2, (hE.keep _).trans (kW.trans h3)⟩)
 clear hi hf
 go_enter Tryz.func71, Tryz.ntmps71
 go_wp2_with (first | (go_at_call 136; refine hstep.mono ?_; rintro e w1 ⟨rfl, hD1, k1⟩))
 go_wp2
 go_ret
 exact ⟨rfl, hD1, k1⟩
end K43
namespace K44
open Go Go.RowKit Go.Maps Go.Shelf
open KB KB2 KB3 K1 K6 K7 K29 P5 K33 K34 K35 K36 K37 K38 K39 K40 K41 K42
def ren : Ren := ⟨fun k => if k = 5 then 151 else if k = 7 then 249 else 0, fun k => if k = 23 then 101 else if k = 25 then 211 else if k = 3 then 3 else if k = 4 then 4 else if k = 20 then 20 else 0, fun _ => 0⟩
theorem lays : SlLaysW.n5 Tryz.prog ren := {
 mixed := by kernel_rfl,
 f5 := ⟨Tryz.f151.name, by decide, Tryz.func151.trans (congrArg some (by kernel_rfl))⟩,
 f7 := Tryz.func249.trans (congrArg some (by kernel_rfl)),
 t4 := Tryz.underlying4,
 a4 := Tryz.isAgg4,
 z4 := Tryz.sizeOf4,
 v4 := Tryz.zeroValue4,
 t20 := Tryz.underlying20,
 a20 := Tryz.isAgg20,
 z20 := Tryz.sizeOf20,
 v20 := Tryz.zeroValue20,
 t23 := Tryz.underlying101,
 a23 := Tryz.isAgg101,
 z23 := Tryz.sizeOf101,
 v23 := Tryz.zeroValue101 }
theorem cloneM (w : World) (b : Nat) (M : List (ByteArray × Nat)) (h : NamesAt w b M) : Calls Tryz.prog 151 #[.map (some b)] w fun e w' => ∃ g, e = .returned (.map (some g)) ∧ w.heap.size ≤ g ∧ NamesAt w' g M ∧ Ext w w' := by
 obtain ⟨h1, h2, h3, Dm, hD, hown⟩ := h
 refine (AnyW.maps_Clone_owns lays _ _ b _ Dm w hown).mono ?_
 rintro e w' ⟨rfl, k1, k2, k3⟩
 exact ⟨_, rfl, Nat.le_refl _, ⟨h1, h2, h3, Dm, hD, k1⟩, k3⟩
theorem syncDir1C (F : Nat → Prop) (dg mg : Nat) (D : Dsk) (w : World) (h : DiskAt F w dg mg D)
   (xb : Nat) (hxb : w.heap[xb]? = some (.cells #[BX dg] 28 (0, 0))) (hxd : ¬ xb = dg) (hF : ∀ k, F k → k < w.heap.size) :
   Calls Tryz.prog 150 #[BX xb] w fun e w' => e = .returned (.int .i64 0) ∧ DiskAt F w' dg mg { D with clean := true } ∧ Keep (Two' dg mg) w w' := by
 have hlt := h.lt
 obtain ⟨fd, fm, le, sl, ql, h8, h9, h10, h11, h12, Af, cff, kg, Ac, cc, chs, K, hb0, h1, h2, h3, h4, h5, h6, h7, h13⟩ := h
 have hmd : mg ≠ dg := h3.notCells hb0
 have hclo := fun W (hE : Ext w W) => cloneM W mg D.M (h3.ext hE)
 have p3 := bC hb0 3
 have px := bC hxb 0
 have hfin : ∀ w2 g, w.heap.size ≤ g → Ext w w2 → NamesAt w2 g D.M → DiskAt F ((w2.setCell ⟨dg, 4, none⟩ (.map (some g))).setCell ⟨dg, 5, none⟩ (.slice none 0 0)) dg mg { D with clean := true } ∧ Keep (Two' dg mg) w ((w2.setCell ⟨dg, 4, none⟩ (.map (some g))).setCell ⟨dg, 5, none⟩ (.slice none 0 0)) := by
   intro w2 g hg hE hN
   have K1 := kS1 w2 dg 4 (.map (some g))
   have K2 := kS1 (w2.setCell ⟨dg, 4, none⟩ (.map (some g))) dg 5 (.slice none 0 0)
   have K3 := K1.trans K2
   have hbs := bS (bS (hE.blk hb0) 4 (.map (some g))) 5 (.slice none 0 0)
   have kd3 : Keep (DF F dg mg) _ _ := K3.mono (fun _ _ q => .inr (.inl q))
   exact ⟨⟨fd, fm, le, sl, ql, h8, h9, h10, h11, h12, Af, cff, g, none, 0, [], D.M, hbs, (h1.ext hE).keep kd3, Rd.Sl.nil0 _ _ _, (h3.ext hE).keep K3 hmd, hN.keep K3 (by omega), (by omega), (fun q => by have := hF g q; omega), (fun _ => ⟨rfl, rfl⟩), Nat.zero_le _⟩, (Keep.pre K3 hE).mono (fun _ _ q => .inl q)⟩
 clear h1 h2 h3 h4 h7 h8 h9 h12
 go_enter Tryz.func150, Tryz.ntmps150
 go_wp2_with (fail)
 go_region_law (first | (go_simp; go_at_call 151; refine (hclo _ XE).mono ?_; rintro e w2 ⟨g, rfl, hg, hN, hE2⟩; have hE02 := Ext.trans (a := w) XE hE2; have q4 := bC (hE02.blk hb0) 4; have qf4 := bF (hE02.blk hb0) 4; have q5 := bC (hE02.blk hb0) 5; have qf5 := bF (hE02.blk hb0) 5; have qx := bC (hE02.blk hxb) 0; dsimp only))
 all_goals
   (try simp only [Exit.inBlock, Exit.then])
   trace "leaf"
   go_wp2
   go_ret
   obtain ⟨a1, a2⟩ := hfin w2 g (Nat.le_trans (Ext.size (w := w) XE) hg) hE02 hN
   exact ⟨rfl, a1, a2⟩
theorem syncDirC (F : Nat → Prop) (dg mg : Nat) (D : Dsk) (w : World) (h : DiskAt F w dg mg D) (hl : D.lim + 1 ≤ 100000) (hF : ∀ k, F k → k < w.heap.size) :
   Calls Tryz.prog 72 #[BX dg] w fun e w' => e = .returned (.int .i64 0) ∧ DiskAt F w' dg mg { D with steps := D.steps + 1, lim := D.lim + 1, clean := true } ∧ Keep (Two' dg mg) w w' := by
 have hlt := h.lt
 have hx := bN w (.cells #[BX dg] 28)
 have hE := ((Ext.refl w).alloc (.cells #[BX dg] 28))
 have hstep := stepC F dg mg D _ (h.ext hE) (by omega) 150 141 #[BX w.heap.size] #[] (fun w' => DiskAt F w' dg mg { D with steps := D.steps + 1, lim := D.lim + 1, clean := true } ∧ Keep (Two' dg mg) w w') (fun _ _ => rfl) (fun W hW kW =>
   (syncDir1C F dg mg _ W hW _ (kW.blk (by rintro (e | e) <;> omega) hx) (by omega) (fun k q => Nat.lt_of_lt_of_le (hF k q) (Nat.le_trans hE.size kW.size))).mono fun e w' ⟨h1, h2, h3⟩ => ⟨h1, h2, (hE.keep _).trans (kW.trans h3)⟩)
 go_enter Tryz.func72, Tryz.ntmps72
 go_wp2_with (first | (go_at_call 136; refine hstep.mono ?_; rintro e w1 ⟨rfl, hD1, k1⟩))
 go_wp2
 go_ret
 exact ⟨rfl, hD1, k1⟩
end K44
namespace K45
open Go Go.RowKit Go.Maps
open KB KB2 KB3 K1 K6 K7 K29 P5 K33 K34 K35 K36 K37 K38 K39 K40 K41 K42
theorem rename1C (F : Nat → Prop) (dg mg : Nat) (D : Dsk) (w : World) (h : DiskAt F w dg mg D) (hl : D.lim < 100000) (f t : ByteArray) (hf : f.size ≤ 20) (t0 : 0 < t.size) (ht : t.size ≤ 20) (hte : ¬ t.toList = []) (i : Nat) (hi : getA f D.M = some i)
   (fb tb xb : Nat) (hfb : w.heap[fb]? = some (.cells #[.string f] 9 (0, 0))) (htb : w.heap[tb]? = some (.cells #[.string t] 9 (0, 0))) (hxb : w.heap[xb]? = some (.cells #[BX dg] 28 (0, 0))) (hF : ∀ k, F k → k < w.heap.size) :
   Calls Tryz.prog 176 #[BX fb, BX tb, BX xb] w fun e w' => e = .returned (.int .i64 0) ∧ DiskAt F w' dg mg { D with lim := D.lim + 1, M := putA t i (delA f D.M), clean := false } ∧ Keep (Two' dg mg) w w' := by
 have hlt := h.lt
 have hnm : f.size ≤ maxLen := by unfold maxLen; omega
 have hmem := getA_mem hi
 have hil : i < D.files.length := h.idx _ hmem
 have hfle := h.fl
 have hle := h.le
 have hturn := fun W (hE : Ext w W) => turnPutC F dg mg D W (h.ext hE) hl f (by omega) t (by omega) hte i hil (fun p hp hne e => hne (h.inj p hp _ hmem e)) (FExt hF hE)
 obtain ⟨fd, fm, le, sl, ql, h8, h9, h10, h11, h12, Af, cff, kg, Ac, cc, chs, K, hb0, h1, h2, h3, h4, h5, h6, h7, h13⟩ := h
 obtain ⟨x, hxx⟩ : ∃ x, w.heap.size = x := ⟨_, rfl⟩
 have hc := bN w (.cells #[.string f, .string t, .int .i64 0] 219)
 have hE1 := (Ext.refl w).alloc (.cells #[.string f, .string t, .int .i64 0] 219)
 rw [hxx] at hc
 have p0 := bC hfb 0
 have p1 := bC htb 0
 go_enter Tryz.func176, Tryz.ntmps176
 go_wp2_with (fail)
 generalize (w.alloc (.cells #[.string f, .string t, .int .i64 0] 219)) = w1 at *
 have keep : ∀ w', Ext w1 w' → Ext w1 w' ∧ w'.cell? ⟨dg, 3, none⟩ = some (.map (some mg)) ∧ w'.cell? ⟨xb, 0, none⟩ = some (BX dg) ∧ w'.cell? ⟨x, 0, none⟩ = some (.string f) ∧ w'.cell? ⟨x, 1, none⟩ = some (.string t) ∧ (Instr.lookup 101 (.map (some mg)) (.agg #[.string f]) true).run Tryz.prog w' = .ok (.tuple #[.int .i64 i, .bool true]) w' := fun w' k => ⟨k, k.cell (bC (hE1.blk hb0) 3), k.cell (bC (hE1.blk hxb) 0), k.cell (bC hc 0), k.cell (bC hc 1), by have := (h3.ext (hE1.trans k)).lookRun f hnm; rw [lookVal, hi] at this; exact this⟩
 obtain ⟨_, c3, x0, c0, c1, hlk⟩ := keep w1 (Ext.refl w1)
 go_region_held3 (fun w' => Ext w1 w' ∧ w'.cell? ⟨dg, 3, none⟩ = some (.map (some mg)) ∧ w'.cell? ⟨xb, 0, none⟩ = some (BX dg) ∧ w'.cell? ⟨x, 0, none⟩ = some (.string f) ∧ w'.cell? ⟨x, 1, none⟩ = some (.string t) ∧ (Instr.lookup 101 (.map (some mg)) (.agg #[.string f]) true).run Tryz.prog w' = .ok (.tuple #[.int .i64 i, .bool true]) w') (((try dsimp only); refine keep _ ?_; first | with_reducible assumption | exact XE)) (fail)
 (try simp only [Exit.inBlock, Exit.then])
 go_wp2_with (fail)
 refine (mayC t t0 ht _).mono ?_; rintro e w2 ⟨rfl, hE2'⟩
 have hE2 : Ext w1 w2 := Ext.trans ((Ext.refl w1).drew) hE2'
 have hc2 := hE2.blk hc
 have y2 := bC hc2 2
 have yf2 := bF hc2 2
 have hb3 := bS hc2 2 (.int .i64 i)
 have hE3 : Ext w (w2.setCell ⟨x, 2, none⟩ (.int .i64 i)) := (hE1.trans hE2).setCell (by rw [hxx]; exact Nat.le_refl _) _
 have hxn : ¬ xb = x := by have := blk_lt hxb; omega
 have z0 := bC hb3 0
 have z1 := bC hb3 1
 have z2 := bC hb3 2
 have zx := hE3.cell (bC hxb 0)
 clear keep c3 x0 c0 c1 hlk h1 h2 h3 h4 h7 h8 h9 h12 hmem hi
 go_wp2_with (fail)
 refine (hturn _ hE3).mono ?_; rintro e w4 ⟨rfl, hD4, k4⟩
 go_wp2
 go_ret
 exact ⟨rfl, hD4, (hE3.keep _).trans k4⟩
theorem remove1C (F : Nat → Prop) (dg mg : Nat) (D : Dsk) (w : World) (h : DiskAt F w dg mg D) (hl : D.lim < 100000) (f : ByteArray) (hf : f.size ≤ 20) (i : Nat) (hi : getA f D.M = some i)
   (fb xb : Nat) (hfb : w.heap[fb]? = some (.cells #[.string f] 9 (0, 0))) (hxb : w.heap[xb]? = some (.cells #[BX dg] 28 (0, 0))) (hF : ∀ k, F k → k < w.heap.size) :
   Calls Tryz.prog 147 #[BX fb, BX xb] w fun e w' => e = .returned (.int .i64 0) ∧ DiskAt F w' dg mg { D with lim := D.lim + 1, M := delA f D.M, clean := false } ∧ Keep (Two' dg mg) w w' := by
 have hlt := h.lt
 have hnm : f.size ≤ maxLen := by unfold maxLen; omega
 have hmem := getA_mem hi
 have hil : i < D.files.length := h.idx _ hmem
 have hfle := h.fl
 have hle := h.le
 have hturn := fun W (hE : Ext w W) => turnDelC F dg mg D W (h.ext hE) hl f (by omega) (FExt hF hE)
 obtain ⟨fd, fm, le, sl, ql, h8, h9, h10, h11, h12, Af, cff, kg, Ac, cc, chs, K, hb0, h1, h2, h3, h4, h5, h6, h7, h13⟩ := h
 obtain ⟨x, hxx⟩ : ∃ x, w.heap.size = x := ⟨_, rfl⟩
 have hc := bN w (.cells #[.string f] 211)
 have hE1 := (Ext.refl w).alloc (.cells #[.string f] 211)
 rw [hxx] at hc
 have p0 := bC hfb 0
 go_enter Tryz.func147, Tryz.ntmps147
 go_wp2_with (fail)
 generalize (w.alloc (.cells #[.string f] 211)) = w1 at *
 have keep : ∀ w', Ext w1 w' → Ext w1 w' ∧ w'.cell? ⟨dg, 3, none⟩ = some (.map (some mg)) ∧ w'.cell? ⟨xb, 0, none⟩ = some (BX dg) ∧ w'.cell? ⟨x, 0, none⟩ = some (.string f) ∧ (Instr.lookup 101 (.map (some mg)) (.agg #[.string f]) true).run Tryz.prog w' = .ok (.tuple #[.int .i64 i, .bool true]) w' := fun w' k => ⟨k, k.cell (bC (hE1.blk hb0) 3), k.cell (bC (hE1.blk hxb) 0), k.cell (bC hc 0), by have := (h3.ext (hE1.trans k)).lookRun f hnm; rw [lookVal, hi] at this; exact this⟩
 obtain ⟨_, c3, x0, c0, hlk⟩ := keep w1 (Ext.refl w1)
 go_region_held3 (fun w' => Ext w1 w' ∧ w'.cell? ⟨dg, 3, none⟩ = some (.map (some mg)) ∧ w'.cell? ⟨xb, 0, none⟩ = some (BX dg) ∧ w'.cell? ⟨x, 0, none⟩ = some (.string f) ∧ (Instr.lookup 101 (.map (some mg)) (.agg #[.string f]) true).run Tryz.prog w' = .ok (.tuple #[.int .i64 i, .bool true]) w') (((try dsimp only); refine keep _ ?_; first | with_reducible assumption | exact XE)) (fail)
 (try simp only [Exit.inBlock, Exit.then])
 clear keep c3 x0 c0 hlk h1 h2 h3 h4 h7 h8 h9 h12 hmem hi
 go_wp2_with (fail)
 refine (hturn _ (hE1.trans (Ext.refl w1).drew)).mono ?_; rintro e w4 ⟨rfl, hD4, k4⟩
 go_wp2
 go_ret
 exact ⟨rfl, hD4, ((hE1.trans (Ext.refl w1).drew).keep _).trans k4⟩
theorem renameC (F : Nat → Prop) (dg mg : Nat) (D : Dsk) (w : World) (h : DiskAt F w dg mg D) (hl : D.lim + 2 ≤ 100000) (f t : ByteArray) (hf : f.size ≤ 20) (t0 : 0 < t.size) (ht : t.size ≤ 20) (hte : ¬ t.toList = []) (i : Nat) (hi : getA f D.M = some i) (hF : ∀ k, F k → k < w.heap.size) :
   Calls Tryz.prog 98 #[BX dg, .string f, .string t] w fun e w' => e = .returned (.int .i64 0) ∧ DiskAt F w' dg mg { D with steps := D.steps + 1, lim := D.lim + 2, M := putA t i (delA f D.M), clean := false } ∧ Keep (Two' dg mg) w w' := by
 have hlt := h.lt
 have hx0 := bN w (.cells #[BX dg] 28)
 have hx1 := bO2 (o' := .cells #[.string f] 9) hx0
 have hx := bO2 (o' := .cells #[.string t] 9) hx1
 have hn1 := bN (w.alloc (.cells #[BX dg] 28)) (.cells #[.string f] 9)
 have hn := bO2 (o' := .cells #[.string t] 9) hn1
 have hbb := bN ((w.alloc (.cells #[BX dg] 28)).alloc (.cells #[.string f] 9)) (.cells #[.string t] 9)
 have hE := (((Ext.refl w).alloc (.cells #[BX dg] 28)).alloc (.cells #[.string f] 9)).alloc (.cells #[.string t] 9)
 simp only [World.size_alloc] at hn hbb
 clear hx0 hx1 hn1
 have hstep := stepC F dg mg D _ (h.ext hE) (by omega) 176 141 #[BX (w.heap.size + 1), BX (w.heap.size + 1 + 1), BX w.heap.size] #[] (fun w' => DiskAt F w' dg mg { D with steps := D.steps + 1, lim := D.lim + 2, M := putA t i (delA f D.M), clean := false } ∧ Keep (Two' dg mg) w w') (fun _ _ => rfl) (fun W hW kW =>
   (rename1C F dg mg _ W hW (by show D.lim + 1 < 100000; omega) f t hf t0 ht hte i hi _ _ _ (kW.blk (by rintro (e | e) <;> omega) hn) (kW.blk (by rintro (e | e) <;> omega) hbb) (kW.blk (by rintro (e | e) <;> omega) hx) (fun k q => Nat.lt_of_lt_of_le (hF k q) (Nat.le_trans hE.size kW.size))).mono fun e w' ⟨h1, h2, h3⟩ => ⟨h1, h2, (hE.keep _).trans (kW.trans h3)⟩)
 clear hi
 go_enter Tryz.func98, Tryz.ntmps98
 go_wp2_with (first | (go_at_call 136; refine hstep.mono ?_; rintro e w1 ⟨rfl, hD1, k1⟩))
 go_wp2
 go_ret
 exact ⟨rfl, hD1, k1⟩
theorem removeC (F : Nat → Prop) (dg mg : Nat) (D : Dsk) (w : World) (h : DiskAt F w dg mg D) (hl : D.lim + 2 ≤ 100000) (f : ByteArray) (hf : f.size ≤ 20) (i : Nat) (hi : getA f D.M = some i) (hF : ∀ k, F k → k < w.heap.size) :
   Calls Tryz.prog 69 #[BX dg, .string f] w fun e w' => e = .returned (.int .i64 0) ∧ DiskAt F w' dg mg { D with steps := D.steps + 1, lim := D.lim + 2, M := delA f D.M, clean := false } ∧ Keep (Two' dg mg) w w' := by
 have hlt := h.lt
 have hx0 := bN w (.cells #[BX dg] 28)
 have hx := bO2 (o' := .cells #[.string f] 9) hx0
 have hn := bN (w.alloc (.cells #[BX dg] 28)) (.cells #[.string f] 9)
 have hE := ((Ext.refl w).alloc (.cells #[BX dg] 28)).alloc (.cells #[.string f] 9)
 simp only [World.size_alloc] at hn
 clear hx0
 have hstep := stepC F dg mg D _ (h.ext hE) (by omega) 147 141 #[BX (w.heap.size + 1), BX w.heap.size] #[] (fun w' => DiskAt F w' dg mg { D with steps := D.steps + 1, lim := D.lim + 2, M := delA f D.M, clean := false } ∧ Keep (Two' dg mg) w w') (fun _ _ => rfl) (fun W hW kW =>
   (remove1C F dg mg _ W hW (by show D.lim + 1 < 100000; omega) f hf i hi _ _ (kW.blk (by rintro (e | e) <;> omega) hn) (kW.blk (by rintro (e | e) <;> omega) hx) (fun k q => Nat.lt_of_lt_of_le (hF k q) (Nat.le_trans hE.size kW.size))).mono fun e w' ⟨h1, h2, h3⟩ => ⟨h1, h2, (hE.keep _).trans (kW.trans h3)⟩)
 clear hi
 go_enter Tryz.func69, Tryz.ntmps69
 go_wp2_with (first | (go_at_call 136; refine hstep.mono ?_; rintro e w1 ⟨rfl, hD1, k1⟩))
 go_wp2
 go_ret
 exact ⟨rfl, hD1, k1⟩
end K45
namespace K46
open Go Go.RowKit Go.Maps
open KB KB2 KB3 K1 K6 K7 K9 K29 P5 K33 K34 K35 K36 K37 K38 K39 K40 K41 K42
theorem DFlt {F : Nat → Prop} {w : World} {dg mg : Nat} {D : Dsk} (h : DiskAt F w dg mg D) (hF : ∀ k, F k → k < w.heap.size) : ∀ k, DF F dg mg k → k < w.heap.size := fun k q => by
 have := h.lt
 rcases q with q | q | q
 · exact hF k q
 · omega
 · omega
theorem readC (F : Nat → Prop) (dg mg : Nat) (D : Dsk) (w : World) (h : DiskAt F w dg mg D) (n : ByteArray) (hn20 : n.size ≤ 20) (i : Nat) (hi : getA n D.M = some i) (fb : List Int) (fs : Int) (hf : D.files[i]? = some (fb, fs)) (hF : ∀ k, F k → k < w.heap.size) :
   Calls Tryz.prog 87 #[BX dg, .string n] w fun e w' => ∃ A c, e = .returned (.tuple #[.slice A fb.length c, .int .i64 0]) ∧ rdU8.Sl (DF F dg mg) w' A c fb ∧ Ext w w' := by
 have hDF := DFlt h hF
 have hlt := h.lt
 have hnm : n.size ≤ maxLen := by unfold maxLen; omega
 obtain ⟨fd, fm, le, sl, ql, h8, h9, h10, h11, h12, Af, cff, kg, Ac, cc, chs, K, hb0, h1, h2, h3, h4, h5, h6, h7, h13⟩ := h
 have hil : i < D.files.length := (List.getElem?_eq_some_iff.1 hf).1
 have hfb : fb.length ≤ 10000000 := h12 _ (List.mem_of_getElem? hf)
 have hlook := h3.lookRun n hnm
 rw [lookVal, hi] at hlook
 have p2 := bC hb0 2
 have p3 := bC hb0 3
 have p8 := bC hb0 8
 have hget := file_get h1 hil
 rw [(List.getElem?_eq_some_iff.1 hf).2] at hget
 obtain ⟨b, o, A2, c2, rfl, r0, r1, hs⟩ := hget
 have hfl0 : (i : Int) < (D.files.length : Int) := by omega
 have hcl := cloneB (DF F dg mg) A2 c2 fb w hs (by omega) hDF
 dsimp only at r0 hs hcl
 clear h1 h2 h3 h4 h7 h8 h9 h12 hf hi
 go_enter Tryz.func87, Tryz.ntmps87
 go_wp2_with (first | (go_at_call 171; refine hcl.mono ?_; rintro e w4 ⟨A', c', rfl, h4s, hE4⟩))
 go_wp2
 go_returns
 exact ⟨A', c', rfl, h4s, hE4⟩
end K46
namespace K47
open Go Go.RowKit Go.Maps Go.Shelf Go.Proofs
open KB KB2 P5 K33 K34
abbrev encN (s : ByteArray) : Value := .agg #[.string s]
def Col (D : DataW Unit) (left : Lit → Bool) (ss : List ByteArray) : Prop := ss.Nodup ∧ ∀ s, s ∈ ss ↔ s.size ≤ maxLen ∧ has D (kl s) = true ∧ left (kl s) = false
theorem Col.start {D : DataW Unit} {left : Lit → Bool} (h : ∀ k, has D k = true → left k = true) : Col D left [] := ⟨.nil, fun s => by
 constructor
 · intro h; cases h
 · rintro ⟨_, h1, h2⟩; rw [h _ h1] at h2; cases h2⟩
theorem Col.step {D : DataW Unit} {left : Lit → Bool} {ss : List ByteArray} {s : ByteArray} (h : Col D left ss) (hs : s.size ≤ maxLen) (hl : left (kl s) = true) (hd : has D (kl s) = true) : Col D (fun z => left z && !z.sameKey (kl s)) (ss ++ [s]) := by
 obtain ⟨h1, h2⟩ := h
 refine ⟨?_, fun t => ?_⟩
 · rw [List.nodup_append]
   refine ⟨h1, List.pairwise_singleton _ _, fun a ha b hb e => ?_⟩
   rw [List.mem_singleton.1 hb] at e
   subst e
   have := ((h2 a).1 ha).2.2
   rw [hl] at this; cases this
 · rw [List.mem_append, List.mem_singleton, h2]
   constructor
   · rintro (⟨a, b, c⟩ | rfl)
     · exact ⟨a, b, by simp [c]⟩
     · exact ⟨hs, hd, by simp [WideAt.sameKey_self (litKey t)]⟩
   · rintro ⟨a, b, c⟩
     by_cases e : t = s
     · exact .inr e
     · have : (kl t).sameKey (kl s) = false := sameKey_ne (fun q => e (kl_inj a hs q))
       simp only [this, Bool.not_false, Bool.and_true] at c
       exact .inl ⟨a, b, c⟩
theorem Col.all {M : List (ByteArray × Nat)} {D : DataW Unit} {left : Lit → Bool} {ss : List ByteArray} (h : Col D left ss) (hD : MapIs M D) (hM : SrtA M) (hsm : ∀ p ∈ M, p.1.size ≤ maxLen) (hl : ∀ k, left k = false) : ss.Perm (M.map (·.1)) := by
 obtain ⟨h1, h2⟩ := h
 have hnd : (M.map (·.1)).Nodup := List.pairwise_map.2 (hM.imp fun {a b} h => by intro e; rw [e] at h; exact ltN_irrefl _ h)
 refine (List.perm_ext_iff_of_nodup h1 hnd).2 fun s => ?_
 rw [h2]
 constructor
 · rintro ⟨a, b, _⟩
   rw [(hD.look s a).1] at b
   obtain ⟨i, hi⟩ := Option.isSome_iff_exists.1 b
   exact List.mem_map.2 ⟨_, getA_mem hi, rfl⟩
 · intro hs
   obtain ⟨p, hp, rfl⟩ := List.mem_map.1 hs
   have hz := hsm p hp
   exact ⟨hz, by rw [(hD.look _ hz).1, mem_getA hM hp]; rfl, hl _⟩
theorem keys1 (F : Fence) (n : Nat) (h10 : F.fn 314) (hro : F.round = none) (hn : 1 ≤ n) (l Bm b nn : Nat) (D0 : DataW Unit) (M : List (ByteArray × Nat)) (hD : MapIs M D0) (hM : SrtA M) (hsm : ∀ p ∈ M, p.1.size ≤ maxLen) (J Jx : List ByteArray → World → Prop)
   (hY : ∀ pre x W, J pre W → pre.length < M.length → YieldAt F (n - 1) Tryz.prog l #[encN x] W fun e W' =>
     (e = .returned (.bool true) ∧ J (pre ++ [x]) W' ∧ KeepsWalks W W') ∨ (e = .returned (.bool false) ∧ Jx (pre ++ [x]) W'))
   (W : World) (hJ : AbidesFrom W.heap.size J) (hm : W.cell? ⟨Bm, 0, none⟩ = some (.map (some b))) (hown : W.ownsMap Tryz.prog 211 (plainElem Tryz.prog 3) b nn D0) (h0 : J [] W) :
   CallsIn F n Tryz.prog 314 #[.func (.yield l) #[] #[], .pointer (some ⟨Bm, 0, none⟩)] W fun e W' => (∃ v, e = .returned v) ∧
     ((∃ ss, ss.Perm (M.map (·.1)) ∧ J ss W') ∨ (∃ pre, True ∧ Jx pre W')) := by
 refine callsIn_of_wp Tryz.func314 rfl h10 ?_ hro
 simp only [Tryz.ntmps314, List.size_toArray, List.length_cons, List.length_nil, Nat.reduceAdd, Nat.reduceSub, Array.replicate_succ, Array.replicate_zero, List.push_toArray, List.append_toArray, List.nil_append, List.cons_append]
 gi_wp2_with (first
   | (gi_at_range; refine wpListIn_range_own _ rfl _ 101 rfl 211 3 law Tryz.underlying101 _ b nn _ rfl hown ?_; intro w0 hrg0 hg0 hs0)
   | gi_in)
 go_frame
 gi_loopw [3] (fun _ wr => ∃ (left : Lit → Bool) (cnt : Nat) (ss : List ByteArray), wr.ranges Tryz.prog 211 (plainElem Tryz.prog 3) b W.heap.size nn D0 left cnt ∧ ss.length + cnt ≤ Maps.size D0 ∧ Col D0 left ss ∧ J ss wr)
   (fun _ wr => wr.rangeLeft b W.heap.size)
 case atStart =>
   exact ⟨_, _, [], hrg0, by simp, Col.start (fun k h => h), hJ [] W w0 none h0 hg0 (fun r e => by cases e)⟩
 case round =>
   obtain ⟨left, cnt, ss, hrg, hcs, hC, hJs⟩ := hrel
   gi_wp2_with (first
     | (gi_at_next; refine wpListIn_next_ranges _ rfl _ rfl 211 law (plainElem Tryz.prog 3) (fun s : ByteArray => .agg #[.string s]) id (fun key kl hk => by obtain ⟨s, _, rfl, _⟩ := key_inv hk; exact ⟨s, rfl⟩) (fun v _ _ => ⟨v, rfl⟩) b W.heap.size nn _ _ _ rfl hrg ?_ ?_)
     | gi_in)
   · intro hc0 hl0
     gi_wp2
     go_end0
     exact ⟨⟨_, rfl⟩, .inl ⟨ss, hC.all hD hM hsm hl0, hJs⟩⟩
   · intro s c kk yd yp w2 cnt2 hkey hlk hv hat hrg2 hlt hg2 hs2 hen
     obtain ⟨s', hs', he, rfl⟩ := key_inv hkey
     simp only [Value.agg.injEq, Array.mk.injEq, List.cons.injEq, Value.string.injEq, and_true] at he
     subst he
     have hJ2 : J ss w2 := hJ ss wr w2 (some W.heap.size) hJs hg2 (fun r e => by cases e; exact ⟨Nat.le_refl _, hrg.iter_walk⟩)
     have hsW : W.heap.size ≤ w2.heap.size := by have := hg2.size; have := (hrg.iter_walk).choose_spec.1; have := (Array.getElem?_eq_some_iff.1 this).1; omega
     have hJ3 : J ss (w2.alloc (.cells #[.string s] 211)) := hJ ss w2 _ none hJ2 (World.grownBy_alloc _ _ none) (fun r e => by cases e)
     obtain ⟨fn, tmps, assign, body, hy, hR⟩ := hY ss s (w2.alloc (.cells #[.string s] 211)) hJ3 (by rw [hD.size] at hcs; have := hrg2.left_eq; omega)
     clear hs2
     have hC2 := hC.step hs' hlk (Maps.has_true_of_atKey hat)
     gi_wp2
     refine hR.mono ?_
     rintro e W3 (⟨rfl, hJ3, hk3⟩ | ⟨rfl, hJx3⟩)
     · gi_wp2
       have hrg3 := (hrg2.of_walks (KeepsWalks.alloc _ _)).of_walks hk3
       go_roundw
       case rel => exact ⟨_, cnt2, ss ++ [s], hrg3, by simp; omega, hC2, hJ3⟩
       case measure => rw [hrg3.left_eq, hrg.left_eq]; exact hlt
     · gi_wp2
       refine bodyPost_ret (results_none rfl _ _ _) rfl ?_
       exact ⟨⟨_, rfl⟩, .inr ⟨ss ++ [s], trivial, hJx3⟩⟩
end K47
namespace K48
open Go Go.RowKit Go.Maps Go.Shelf Go.Proofs
open KB KB2 P5 K33 K34 K47
attribute [local go_sem] Oper.semAt_some
theorem keysStops (F : Fence) (n : Nat) (h10 : F.fn 314) (hro : F.round = none) (hn : 1 ≤ n) (Bm b : Nat) (M : List (ByteArray × Nat)) (w : World) (hBm : Bm < w.heap.size)
   (hm : w.cell? ⟨Bm, 0, none⟩ = some (.map (some b))) (h : NamesAt w b M) :
   SeqStopsK F n Tryz.prog 314 #[.pointer (some ⟨Bm, 0, none⟩)] (fun s => #[encN s]) KeepsWalks (fun ss => ss.Perm (M.map (·.1))) (fun _ => True) M.length w := fun l J Jx W hW hJ _ hY h0 => by
 have h' : NamesAt W b M := h.ext hW
 obtain ⟨D0, hD, hown⟩ := h'.at_
 exact keys1 F n h10 hro hn l Bm b _ D0 M hD h'.srt (fun p hp => Nat.le_trans (h'.small p hp) (by unfold maxLen; omega)) J Jx hY W hJ ((hW.cell (p := ⟨Bm, 0, none⟩) hBm).trans hm) hown h0
theorem infoN : (Tryz.prog.info? 211).map (fun i => (i.zero, i.size, i.bytes)) = some (some (.agg #[.string ⟨#[]⟩]), 1, 16) := by kernel_rfl
theorem appendSeqN (F : Fence) (n : Nat) (h3 : F.fn 347) (h10 : F.fn 314) (hro : F.round = none) (hn : 3 ≤ n) (Bm b : Nat) (M : List (ByteArray × Nat)) (hM : M.length ≤ 100000) (w : World) (hBm : Bm < w.heap.size)
   (hm : w.cell? ⟨Bm, 0, none⟩ = some (.map (some b))) (h : NamesAt w b M) :
   CallsIn F n Tryz.prog 347 #[.slice none 0 0, .func (.func 314) #[] #[.pointer (some ⟨Bm, 0, none⟩)]] w fun e W' => ∃ (v : Value) (ss : List ByteArray), e = .returned v ∧ ss.Perm (M.map (·.1)) ∧ W'.ownsRow w.heap.size 211 1 v ss.length (ss.map Value.string) ∧ Ext w W' := by
 have h1 : 1 ≤ n := by omega
 obtain ⟨i0, hi, hz0, hz1, hz2⟩ := info_parts infoN
 refine callsIn_of_wp_marks Tryz.func347 rfl h3 ?_ hro
 simp only [Tryz.ntmps347, List.size_toArray, List.length_cons, List.length_nil, Nat.reduceAdd, Nat.reduceSub, Array.replicate_succ, Array.replicate_zero, List.push_toArray, List.append_toArray, List.nil_append, List.cons_append]
 gi_wp2
 have bO := Boxed.new w 222 (.slice none 0 0)
 have hB0 : Below w.heap.size w (w.alloc (.cells #[.slice none 0 0] 222)) := (Below.refl _ w).alloc (Nat.le_refl _) _
 refine wpIn_rangeFunc_ownH hro h1 (gf := 314) (lb := #[.pointer (some ⟨Bm, 0, none⟩)]) rfl h10 (enters_of Tryz.func314 (by kernel_rfl) rfl)
   (keysStops F (n - 1) h10 hro (by omega) Bm b M _ (by simp; omega) ((hB0.cell (p := ⟨Bm, 0, none⟩) hBm).trans hm) (h.ext hB0)) walksK_t walksK_b (Below.refl _ _) (fun _ => rfl)
   (fun pre W => (∃ v, Boxed W w.heap.size 222 v ∧ W.ownsRow w.heap.size 211 1 v pre.length (pre.map Value.string) ∧ True) ∧ Below w.heap.size w W)
   (fun _ _ _ => False)
   (OwnFrom.and (Own.from (holdsRow_own w.heap.size w.heap.size 222 211 1 (fun pre : List ByteArray => pre.length) (fun pre => pre.map Value.string) (fun pre v => True)) _) (ownFrom_below (Nat.le_refl _) (by simp)))
   (fun _ _ _ _ _ hs _ _ => hs)
   ⟨⟨_, bO, World.ownsRow_nil _ _ _ _, trivial⟩, hB0⟩
   (fun x a' W => ∃ Bx, w.heap.size < Bx ∧ Boxed W Bx 211 (.string x) ∧ a' = { tmps := #[.slice none 0 0, .func (.func 314) #[] #[.pointer (some ⟨Bm, 0, none⟩)], .pointer (some ⟨w.heap.size, 0, none⟩), undef, .slice none 0 0, .pointer (some ⟨Bx, 0, none⟩), .func (.func 314) #[] #[.pointer (some ⟨Bm, 0, none⟩)], encN x, undef, undef, undef, undef, undef], defers := [] })
   (fun x a' _ X Y row hs hg hr => by obtain ⟨Bx, h1, h2, h3⟩ := hs; exact ⟨Bx, h1, boxed_own Bx 211 (fun (_ : Unit) => Value.string x) () X Y row h2 hg (fun r e => (hr r e).2), h3⟩)
   ?assign ?body ?done ?stop
 case assign =>
   rintro l pre x W K ⟨⟨v, hv, hrow, _⟩, hB1⟩ hK
   gi_wp2
   exact hK _ _ ((KeepsOthers.alloc _ _).from _) (KeepsWalks.alloc _ _) ⟨⟨v, hv.alloc _, hrow.alloc _, trivial⟩, hB1.alloc hB1.size _⟩ ⟨W.heap.size, hv.lt, Boxed.new W 211 _, rfl⟩
 case body =>
   rintro l pre x a' W hl ⟨r, hr⟩ ⟨⟨v, hv, hrow, _⟩, hB⟩ ⟨Bx, hBx, bX, rfl⟩ hlt
   have hc := hv.cell
   have cX := bX.cell
   gi_wp2_with (gi_at_builtin; refine wpListIn_append_own _ rfl _ _ 222 rfl w.heap.size 211 i0 (.agg #[.string ⟨#[]⟩]) 1 16 Tryz.underlying222 hi hz0 hz1 hz2 rfl (by decide) _ _ _ rfl (hrow.alloc _) ⟨W.heap.size, 0, none⟩ 1 1 [.string x] rfl rfl (cell_one_new _ _ _) (by simp [Value.oneCell']) (by first | omega | (unfold maxLen; omega)) (by first | omega | (unfold maxLen; omega)) (by have := hB.size; simp; omega) ?_; intro v' w1 hown' hgrow _; obtain ⟨g', cap', rfl⟩ := ownsRow_succ hown'; obtain ⟨hv1, hv2, hr2, hk2, hb2⟩ := hv.appended (by decide) hrow hB.size (Nat.le_refl _) hown' hgrow; have hc1 := hv1.cell; have hf1 := hv1.frozen)
   exact ⟨hk2.from _, hk2.walks, ⟨_, hv2, by simpa using hr2, trivial⟩, hB.trans hb2⟩
 case done =>
   rintro D ys W hD hS ⟨⟨v, hv, hrow, _⟩, hB⟩ hK
   have hc := hv.cell
   gi_wp2
   refine ⟨by simp, .inl ⟨_, _, rfl, run_takeDeferred hK, ?_⟩⟩
   exact ⟨_, results_tmp rfl _ _ _, v, ys, rfl, hS, ownsRow_putObj hrow _ hK rfl, hB.trans (belowK_b (w := w) (Nat.le_refl _) W D _ _ (by simp at hD; omega) hK rfl rfl)⟩
 case stop =>
   rintro D c pre W _ _ h _
   exact h.elim
end K48
namespace K49
open Go Go.RowKit Go.Maps Go.Shelf Go.Proofs
def lq_ren : Go.Shelf.Ren := ⟨fun x => match x with | 6 => 313 | 15 => 349 | 14 => 348 | 28 => 380 | 29 => 318 | 20 => 372 | 21 => 373 | 22 => 374 | 23 => 375 | 24 => 376 | 25 => 377 | 26 => 378 | 27 => 379 | 46 => 401 | 47 => 402 | 48 => 403 | 49 => 404 | 50 => 405 | 57 => 416 | n => n, fun x => match x with | 22 => 222 | 24 => 211 | 25 => 329 | 3 => 3 | 39 => 347 | 0 => 0 | 53 => 23 | 55 => 115 | 4 => 4 | 46 => 431 | 45 => 430 | 50 => 213 | 5 => 5 | 9 => 9 | 66 => 453 | 70 => 457 | 76 => 472 | 77 => 93 | n => n, fun x => x⟩
theorem lq : Go.Proofs.SlLaysF0.n6 Tryz.prog lq_ren := {
 mixed := by kernel_rfl,
 f6 := ⟨Tryz.f313.name, by decide, Tryz.func313.trans (congrArg some (by kernel_rfl))⟩,
 f14 := ⟨Tryz.f348.name, by decide, Tryz.func348.trans (congrArg some (by kernel_rfl))⟩,
 f15 := Tryz.func349.trans (congrArg some (by kernel_rfl)),
 f20 := ⟨Tryz.f372.name, by decide, Tryz.func372.trans (congrArg some (by kernel_rfl))⟩,
 f21 := ⟨Tryz.f373.name, by decide, Tryz.func373.trans (congrArg some (by kernel_rfl))⟩,
 f22 := ⟨Tryz.f374.name, by decide, Tryz.func374.trans (congrArg some (by kernel_rfl))⟩,
 f23 := ⟨Tryz.f375.name, by decide, Tryz.func375.trans (congrArg some (by kernel_rfl))⟩,
 f24 := ⟨Tryz.f376.name, by decide, Tryz.func376.trans (congrArg some (by kernel_rfl))⟩,
 f25 := ⟨Tryz.f377.name, by decide, Tryz.func377.trans (congrArg some (by kernel_rfl))⟩,
 f26 := ⟨Tryz.f378.name, by decide, Tryz.func378.trans (congrArg some (by kernel_rfl))⟩,
 f27 := ⟨Tryz.f379.name, by decide, Tryz.func379.trans (congrArg some (by kernel_rfl))⟩,
 f28 := Tryz.func380.trans (congrArg some (by kernel_rfl)),
 f29 := Tryz.func318.trans (congrArg some (by kernel_rfl)),
 f46 := ⟨Tryz.f401.name, by decide, Tryz.func401.trans (congrArg some (by kernel_rfl))⟩,
 f47 := Tryz.func402.trans (congrArg some (by kernel_rfl)),
 f48 := Tryz.func403.trans (congrArg some (by kernel_rfl)),
 f49 := ⟨Tryz.f404.name, by decide, Tryz.func404.trans (congrArg some (by kernel_rfl))⟩,
 f50 := ⟨Tryz.f405.name, by decide, Tryz.func405.trans (congrArg some (by kernel_rfl))⟩,
 f57 := ⟨Tryz.f416.name, by decide, Tryz.func416.trans (congrArg some (by kernel_rfl))⟩,
 t0 := Tryz.underlying0,
 a0 := Tryz.isAgg0,
 z0 := Tryz.sizeOf0,
 v0 := Tryz.zeroValue0,
 t3 := Tryz.underlying3,
 a3 := Tryz.isAgg3,
 z3 := Tryz.sizeOf3,
 v3 := Tryz.zeroValue3,
 t4 := Tryz.underlying4,
 a4 := Tryz.isAgg4,
 z4 := Tryz.sizeOf4,
 v4 := Tryz.zeroValue4,
 t5 := Tryz.underlying5,
 a5 := Tryz.isAgg5,
 z5 := Tryz.sizeOf5,
 v5 := Tryz.zeroValue5,
 t9 := Tryz.underlying9,
 a9 := Tryz.isAgg9,
 z9 := Tryz.sizeOf9,
 v9 := Tryz.zeroValue9,
 t22 := Tryz.underlying222,
 a22 := Tryz.isAgg222,
 z22 := Tryz.sizeOf222,
 v22 := Tryz.zeroValue222,
 t25 := Tryz.underlying329,
 a25 := Tryz.isAgg329,
 z25 := Tryz.sizeOf329,
 v25 := Tryz.zeroValue329,
 t39 := Tryz.underlying347,
 a39 := Tryz.isAgg347,
 z39 := Tryz.sizeOf347,
 v39 := Tryz.zeroValue347,
 t45 := Tryz.underlying430,
 a45 := Tryz.isAgg430,
 z45 := Tryz.sizeOf430,
 v45 := Tryz.zeroValue430,
 t46 := Tryz.underlying431,
 a46 := Tryz.isAgg431,
 z46 := Tryz.sizeOf431,
 v46 := Tryz.zeroValue431,
 t50 := Tryz.underlying213,
 a50 := Tryz.isAgg213,
 z50 := Tryz.sizeOf213,
 v50 := Tryz.zeroValue213,
 t53 := Tryz.underlying23,
 a53 := Tryz.isAgg23,
 z53 := Tryz.sizeOf23,
 v53 := Tryz.zeroValue23,
 t55 := Tryz.underlying115,
 a55 := Tryz.isAgg115,
 z55 := Tryz.sizeOf115,
 v55 := Tryz.zeroValue115,
 t66 := Tryz.underlying453,
 a66 := Tryz.isAgg453,
 z66 := Tryz.sizeOf453,
 v66 := Tryz.zeroValue453,
 t70 := Tryz.underlying457,
 a70 := Tryz.isAgg457,
 z70 := Tryz.sizeOf457,
 v70 := Tryz.zeroValue457,
 t76 := Tryz.underlying472,
 a76 := Tryz.isAgg472,
 z76 := Tryz.sizeOf472,
 v76 := Tryz.zeroValue472,
 t77 := Tryz.underlying93,
 a77 := Tryz.isAgg93,
 z77 := Tryz.sizeOf93,
 v77 := Tryz.zeroValue93 }
end K49
namespace K50
open Go Go.RowKit Go.Maps Go.Shelf Go.Proofs Go.Sort
open KB KB2 P5 K33 K34 K47 K48 K49
def cf (a b : ByteArray) : Int := Lib.compareBytes a.data.toList b.data.toList
theorem cf_lt (a b : ByteArray) : ltOf cf a b = decide (ltN a b) := rfl
theorem cfSWO : SWO (ltOf cf) := by
 refine ⟨fun x => by rw [cf_lt]; exact decide_eq_false (ltN_irrefl x), fun x y z h g => ?_, fun x y z h g => ?_⟩
 · rw [cf_lt] at *
   exact decide_eq_true (ltN_trans (of_decide_eq_true h) (of_decide_eq_true g))
 · rw [cf_lt] at *
   refine decide_eq_false fun q => ?_
   have h' := of_decide_eq_false h
   have g' := of_decide_eq_false g
   by_cases e : x = y
   · subst e; exact g' q
   · have h2 := ltN_total h' e
     exact g' (ltN_trans h2 q)
theorem same_names {l : List ByteArray} {d d' : Array ByteArray} (hl : l.Pairwise ltN) (hd : d.toList.Perm l) (hp : PermIn 0 d.size d d') (hs : SortedIn (ltOf cf) 0 d.size d') : d'.toList = l := by
 obtain ⟨h1, _, h3⟩ := hp
 rw [Array.extract_eq_self_of_le (by omega), Array.extract_eq_self_of_le (by omega)] at h3
 refine List.Perm.eq_of_pairwise (le := fun a b => ¬ ltN b a) (fun a b _ _ p q => ?_) ?_ (hl.imp fun {a b} p q => ltN_irrefl _ (ltN_trans p q)) (h3.trans hd)
 · by_cases e : a = b
   · exact e
   · exact absurd (ltN_total q e) p
 · rw [List.pairwise_iff_getElem]
   intro i j hi hj hij
   simp only [Array.length_toList] at hi hj
   have := hs i j (Nat.zero_le _) hij (by omega)
   rw [cf_lt] at this
   have := of_decide_eq_false this
   rw [getElem!_pos d' j hj, getElem!_pos d' i hi] at this
   simpa using this
theorem sorted1 (a b : ByteArray) (W : World) : Calls Tryz.prog 248 #[encN a, encN b] W fun e w' => e = .returned (.int .i64 (cf a b)) ∧ w' = (W.alloc (.cells #[.string a] 211)).alloc (.cells #[.string b] 211) := by
 go_enter Tryz.func248, Tryz.ntmps248
 go_wp2_with (first | (go_at_call 220; refine (Tryz.strings_Compare _ _ _).mono ?_; rintro e w' ⟨rfl, rfl⟩))
 go_wp2
 go_ret
 exact ⟨rfl, rfl⟩
abbrev enc1 (s : ByteArray) : List Value := [.string s]
theorem cmpN (W : World) (blk off size : Nat) : CmpLays Tryz.prog 248 #[] enc1 1 cf blk off size W := by
 intro m os dk _ x y
 refine (sorted1 x y _).mono ?_
 rintro e w' ⟨rfl, rfl⟩
 refine ⟨rfl, 0, #[.cells #[.string x] 211, .cells #[.string y] 211], ?_⟩
 rw [alloc_eq_grow, alloc_eq_grow, grow_grow]
 rfl
theorem flat1 (d : Array ByteArray) (j : Nat) (h : j < d.size) : (flatK enc1 1 d)[j]! = .string d[j]! := by
 rw [get_flatK enc1 1 d j (by omega), Nat.div_one, Nat.mod_one]
 rfl
theorem keep_sort (w : World) (blk off m : Nat) (d : Array ByteArray) (os : Array Obj) : Keep (fun k => k = blk) w (sortWorldK enc1 1 w blk off m d os) := by
 refine ⟨rfl, rfl, rfl, size_sortWorldK_c _ _ _ _ _ _ _ _, fun k hk hn => ?_⟩
 show ((w.heap.modify blk _) ++ os)[k]? = w.heap[k]?
 rw [Array.getElem?_append_left (by rw [Array.size_modify]; exact hk), Array.getElem?_modify, if_neg (fun e => hn e.symm)]
theorem sortFuncN (F : Nat → Prop) (w : World) (B blk cap : Nat) (ss l : List ByteArray) (hrow : w.ownsRow B 211 1 (.slice (some ⟨blk, 0, none⟩) ss.length cap) ss.length (ss.map Value.string)) (hl : l.Pairwise ltN) (hp : ss.Perm l) (hn : ss.length ≤ 100000) (hF : ¬ F blk) :
   Calls Tryz.prog 313 #[.slice (some ⟨blk, 0, none⟩) ss.length cap, .func (.func 248) #[] #[]] w fun e w' => e = .returned (.tuple #[]) ∧ rdStr.Sl F w' (some ⟨blk, 0, none⟩) cap l ∧ Keep (fun k => k = blk) w w' := by
 obtain ⟨hblk, hcap, hmax⟩ : blk < w.heap.size ∧ ss.length ≤ cap ∧ cap ≤ maxLen := by
   have hlt := hrow.lt blk rfl
   rcases hrow.2 with ⟨h', _⟩ | ⟨g', cap', cur, h', _, _, h1, h2, _⟩
   · cases h'
   · simp only [Value.slice.injEq] at h'
     obtain ⟨_, _, rfl⟩ := h'
     exact ⟨hlt.2, h1, h2⟩
 have hH : HoldsK enc1 1 w blk 0 ss.toArray := by
   intro j hj
   rw [size_flatK, List.size_toArray, Nat.mul_one] at hj
   rw [flat1 _ _ (by simpa using hj), Nat.zero_add]
   refine ⟨?_, hrow.frozenAt j⟩
   rw [hrow.cellAt j (by omega), List.getElem?_map, List.getElem?_eq_getElem hj]
   simp [hj]
 have hsz : ss.toArray.size = ss.length := by simp
 have hS := AnyQ.slices_SortFunc lq 1 Tryz.isAgg211 Tryz.sizeOf211 enc1 (fun _ => rfl) (fun x v hv => by rw [List.mem_singleton.1 hv]; rfl) cf cfSWO 248 #[] blk 0 cap ss.toArray w (fun _ _ => rfl) (cmpN w blk 0 _) hH hblk (by rw [hsz]; omega)
 rw [hsz] at hS
 refine hS.mono ?_
 rintro e w' ⟨rfl, d', n, os, hpm, hsd, rfl⟩
 have hdl : d'.toList = l := same_names hl (by simpa using hp) (by rw [hsz]; exact hpm) (by rw [hsz]; exact hsd)
 have hsd' : d'.size = ss.toArray.size := hpm.1
 have hH' := holdsK_sortWorldK_c enc1 1 w blk 0 ss.toArray d' n os hH hblk hsd'
 have hll : l.length = ss.length := hp.length_eq.symm
 refine ⟨rfl, ⟨by omega, hmax, (fun h => by cases h), fun k x hk => ?_⟩, keep_sort _ _ _ _ _ _⟩
 have hkl := (List.getElem?_eq_some_iff.1 hk).1
 refine ⟨blk, 0, rfl, hF, [.string x], rfl, fun j u hj => ?_⟩
 have hj0 : j = 0 := by have := (List.getElem?_eq_some_iff.1 hj).1; simp at this; omega
 subst hj0
 cases hj
 have hc := (hH' k (by rw [size_flatK]; omega)).1
 rw [flat1 _ _ (by omega)] at hc
 have hx : d'[k]! = x := by
   rw [← hdl] at hk
   rw [Array.getElem?_toList] at hk
   rw [Array.getElem!_eq_getD, Array.getD_eq_getD_getElem?, hk]
   rfl
 rw [hx] at hc
 show (sortWorldK enc1 1 w blk 0 n d' os).cell? ⟨blk, 0 + k * 1 + 0, none⟩ = _
 rw [Nat.mul_one, Nat.add_zero]
 exact hc
theorem keysC (F : Fence) (n : Nat) (hf : F.fn 247) (hro : F.round = none) (b : Nat) (w : World) :
   CallsIn F n Tryz.prog 247 #[.map (some b)] w fun e w' => e = .returned (.func (.func 314) #[] #[.pointer (some ⟨w.heap.size, 0, none⟩)]) ∧ w' = w.alloc (.cells #[.map (some b)] 101) := by
 refine callsIn_of_wp Tryz.func247 rfl hf ?_ hro
 simp only [Tryz.ntmps247, List.size_toArray, List.length_cons, List.length_nil, Nat.reduceAdd, Nat.reduceSub, Array.replicate_succ, Array.replicate_zero, List.push_toArray, List.append_toArray, List.nil_append, List.cons_append]
 gi_wp2
 go_ret
 exact ⟨rfl, rfl⟩
theorem collectN (Bm b : Nat) (M : List (ByteArray × Nat)) (hM : M.length ≤ 100000) (w : World) (hBm : Bm < w.heap.size) (hm : w.cell? ⟨Bm, 0, none⟩ = some (.map (some b))) (h : NamesAt w b M) :
   Calls Tryz.prog 312 #[.func (.func 314) #[] #[.pointer (some ⟨Bm, 0, none⟩)]] w fun e W' => ∃ (v : Value) (ss : List ByteArray), e = .returned v ∧ ss.Perm (M.map (·.1)) ∧ W'.ownsRow w.heap.size 211 1 v ss.length (ss.map Value.string) ∧ Ext w W' := by
 have ha := callsIn_wide.1 (appendSeqN Fence.wide 9 trivial trivial rfl (by omega) Bm b M hM w hBm hm h)
 go_enter Tryz.func312, Tryz.ntmps312
 go_wp2_with (first | (go_at_call 347; refine ha.mono ?_; rintro e w1 ⟨v, ss, rfl, hp, ho, hE⟩))
 go_ret
 exact ⟨v, ss, rfl, hp, ho, hE⟩
theorem sortedFuncN (F : Nat → Prop) (Bm b : Nat) (M : List (ByteArray × Nat)) (hM : M.length ≤ 100000) (w : World) (hBm : Bm < w.heap.size) (hm : w.cell? ⟨Bm, 0, none⟩ = some (.map (some b))) (h : NamesAt w b M) (hF : ∀ k, F k → k < w.heap.size) :
   Calls Tryz.prog 246 #[.func (.func 314) #[] #[.pointer (some ⟨Bm, 0, none⟩)], .func (.func 248) #[] #[]] w fun e W' => ∃ A c, e = .returned (.slice A M.length c) ∧ rdStr.Sl F W' A c (M.map (·.1)) ∧ Ext w W' := by
 have hsr : (M.map (·.1)).Pairwise ltN := List.pairwise_map.2 h.srt
 have hml : (M.map (·.1)).length = M.length := List.length_map _
 have hc := collectN Bm b M hM w hBm hm h
 go_enter Tryz.func246, Tryz.ntmps246
 go_wp2_with (first | (go_at_call 312; refine hc.mono ?_; rintro e w1 ⟨v, ss, rfl, hp, ho, hE⟩))
 have hl : ss.length = M.length := by rw [hp.length_eq, hml]
 rcases Nat.eq_zero_or_pos M.length with h0 | h0
 · have hM0 : M = [] := List.eq_nil_of_length_eq_zero h0
   obtain ⟨A, c, rfl, hcm, hnil⟩ : ∃ A c, v = .slice A 0 c ∧ c ≤ maxLen ∧ (A = none → c = 0) := by
     rcases ho.2 with ⟨rfl, _⟩ | ⟨g, cap, cur, rfl, _, _, _, h2, _⟩
     · exact ⟨none, 0, rfl, Nat.zero_le _, fun _ => rfl⟩
     · exact ⟨_, cap, by rw [hl, h0], h2, fun h => by cases h⟩
   go_wp2_with (first | (go_at_call 313; refine (AnyF.slices_SortFunc_none lq A c _ _).mono ?_; rintro e w2 ⟨rfl, rfl⟩))
   go_ret
   exact ⟨A, c, by rw [h0]; rfl, by rw [hM0]; exact Rd.Sl.nil _ _ _ hcm hnil, hE⟩
 · obtain ⟨g, cap, rfl, hg⟩ : ∃ g cap, v = .slice (some ⟨g, 0, none⟩) ss.length cap ∧ w.heap.size ≤ g := by
     rcases ho.2 with ⟨_, h'⟩ | ⟨g, cap, cur, rfl, hg, _⟩
     · omega
     · exact ⟨g, cap, rfl, hg⟩
   go_wp2_with (first | (go_at_call 313; refine (sortFuncN F w1 w.heap.size g cap ss _ ho hsr hp (by omega) (fun q => by have := hF g q; omega)).mono ?_; rintro e w2 ⟨rfl, hs, k2⟩))
   go_ret
   exact ⟨_, cap, rfl, hs, k2.extNew hE (fun i q => by rw [q]; exact hg)⟩
theorem sortedC (F : Nat → Prop) (b : Nat) (M : List (ByteArray × Nat)) (hM : M.length ≤ 100000) (w : World) (h : NamesAt w b M) (hF : ∀ k, F k → k < w.heap.size) :
   Calls Tryz.prog 146 #[.map (some b)] w fun e W' => ∃ A c, e = .returned (.slice A M.length c) ∧ rdStr.Sl F W' A c (M.map (·.1)) ∧ Ext w W' := by
 have hE := (Ext.refl w).alloc (.cells #[.map (some b)] 101)
 have hc := sortedFuncN F w.heap.size b M hM (w.alloc (.cells #[.map (some b)] 101)) (by simp) (bC (bN w _) 0) (h.ext hE) (FExt hF hE)
 have hk := callsIn_wide.1 (keysC Fence.wide 9 trivial rfl b w)
 go_enter Tryz.func146, Tryz.ntmps146
 go_wp2_with (first | (go_at_call 247; refine hk.mono ?_; rintro e w1 ⟨rfl, rfl⟩) | (go_at_call 246; refine hc.mono ?_; rintro e w2 ⟨A, c, rfl, hs, hE2⟩))
 go_ret
 exact ⟨A, c, rfl, hs, hE.trans hE2⟩
end K50
namespace K51
open Go Go.RowKit Go.Maps
open KB KB2 KB3 K1 K6 K7 K29 P5 K33 K34 K35 K36 K37 K38 K42 K50
theorem elStr : El Tryz.prog 126 9 rdStr.sz 16 := El.mk (z := .string ⟨#[]⟩) Tryz.underlying126 (by kernel_rfl) rfl (by decide)
theorem namesC (F : Nat → Prop) (dg mg : Nat) (D : Dsk) (w : World) (h : DiskAt F w dg mg D) (hF : ∀ k, F k → k < w.heap.size) :
   Calls Tryz.prog 68 #[BX dg] w fun e w' => ∃ A c, e = .returned (.slice A (D.M.map (·.1)).length c) ∧ rdStr.Sl F w' A c (D.M.map (·.1)) ∧ Ext w w' := by
 obtain ⟨fd, fm, le, sl, ql, h8, h9, h10, h11, h12, Af, cff, kg, Ac, cc, chs, K, hb0, h1, h2, h3, h4, h5, h6, h7, h13⟩ := h
 have p3 := bC hb0 3
 have hs := sortedC F mg D.M (by omega) w h3 hF
 have hMl : (D.M.map (·.1)).length = D.M.length := List.length_map _
 have hM : D.M.length ≤ 100000 := by omega
 rw [← hMl] at hs hM
 generalize D.M.map (·.1) = l at *
 clear h1 h2 h3 h4 h7 h8 h9 h12 hMl
 go_enter Tryz.func68, Tryz.ntmps68
 go_wp2_with (first | (go_at_call 146; refine hs.mono ?_; rintro e w1 ⟨A, c, rfl, hA, hE1⟩))
 go_loopw [3, 5, 12] (fun v _ i wr => ∃ k : Nat, i = .int .i64 k ∧ k ≤ l.length ∧ rdStr.Own F w1.heap.size 9 wr v (l.take k) ∧ Ext w1 wr) (fun _ _ i _ => l.length - (intOf i).toNat)
 case atStart => exact ⟨0, by go_num, Nat.zero_le _, Rd.Own.nil _ _ _ _ _, Ext.refl _⟩
 case round =>
   obtain ⟨k, rfl, hkl, hown, hE⟩ := hrel
   by_cases hlt : k < l.length
   · obtain ⟨b, o, rfl, hc⟩ := str_get hA hlt
     replace hc := hE.cell hc
     have HT := As.mk (take_snoc l hlt)
     have hlit := heap_alloc_new (wr.alloc (.cells #[.string l[k]] 211)) (.cells #[.string l[k]] 9)
     rw [World.size_alloc] at hlit
     have HTL : As ((l.take k).length ≤ 100000) := ⟨by rw [List.length_take]; omega⟩
     go_wp2_with (first | (at_builtin; refine wpList_push rfl _ _ _ rfl rdStr elStr rfl (hown.ext (((Ext.refl wr).alloc _).alloc _)) rfl hlit (y := l[k]) rfl (by have := HTL.out; omega) (by have := HTL.out; unfold maxLen; omega) (by have := hE.size; simp; omega) ((hE.alloc _).alloc _) ?_; intro v' w2 hown2 hg2 hE2))
     rw [← HT.out] at hown2
     go_roundw
     case rel => exact ⟨k + 1, by go_num, by omega, hown2, hE2⟩
     case measure => simp [intOf] <;> omega
   · obtain rfl : k = l.length := by omega
     rw [List.take_length] at hown
     obtain ⟨A', c', rfl, hs⟩ := hown.shut (FExt hF hE1)
     go_wp2
     go_ret
     exact ⟨A', c', rfl, hs, hE1.trans hE⟩
end K51
namespace K52
open Go Go.RowKit Go.Maps
open KB KB2 KB3 K1 P5 K35 K42 K50 K51
theorem isNaNS (a : ByteArray) (w : World) : Calls Tryz.prog 263 #[.string a] w fun e w' => e = .returned (.bool false) ∧ w = w' := by
 go_enter Tryz.func263, Tryz.ntmps263
 go_wp2
 go_ret
 exact ⟨rfl, rfl⟩
theorem isNaNC (a : ByteArray) (w : World) : Calls Tryz.prog 323 #[.string a] w fun e w' => e = .returned (.bool false) ∧ w = w' := by
 go_enter Tryz.func323, Tryz.ntmps323
 go_wp2
 go_ret
 exact ⟨rfl, rfl⟩
theorem bl_eq : ∀ a b : List UInt8, Op.bytesLess a b = decide (Lib.compareBytes a b < 0)
 | [], [] => by simp [Op.bytesLess, Lib.compareBytes]
 | _ :: _, [] => by simp [Op.bytesLess, Lib.compareBytes]
 | [], _ :: _ => by simp [Op.bytesLess, Lib.compareBytes]
 | a :: x, b :: y => by
   rw [Op.bytesLess, bl_eq x y, Lib.compareBytes]
   by_cases h1 : a < b
   · simp [h1]
   · by_cases h2 : b < a
     · have h3 : ¬ a = b := fun e => by subst e; exact h1 h2
       simp [h1, h2, h3]
     · have h3 : a = b := by
         apply UInt8.toNat_inj.1
         simp only [UInt8.lt_iff_toNat_lt] at h1 h2; omega
       simp [h3]
theorem bl_lt (a b : ByteArray) : Op.bytesLess a.toList b.toList = decide (ltN a b) := by
 rw [Lib.toList_data, Lib.toList_data, bl_eq]
 rfl
theorem lessS (a b : ByteArray) (w : World) : Calls Tryz.prog 262 #[.string a, .string b] w fun e w' => e = .returned (.bool (decide (ltN a b))) ∧ w = w' := by
 go_enter Tryz.func262, Tryz.ntmps262
 go_wp2_with (first | (refine (isNaNC _ _).mono ?_; rintro e w' ⟨rfl, rfl⟩))
 go_ret
 exact ⟨by rw [← bl_lt]; rfl, rfl⟩
theorem bsC (F : Nat → Prop) (A : Option Addr) (c : Nat) (l : List ByteArray) (n : ByteArray) (w : World) (hA : rdStr.Sl F w A c l) (hs : l.Pairwise ltN) (hn : l.length ≤ 100000) :
   Calls Tryz.prog 175 #[.slice A l.length c, .string n] w fun e w' => (∃ (k : Int) (f : Bool), e = .returned (.tuple #[.int .i64 k, .bool f]) ∧ (f = true ↔ n ∈ l)) ∧ w = w' := by
 have hs' := List.pairwise_iff_getElem.1 hs
 go_enter Tryz.func175, Tryz.ntmps175
 go_wp2_with (fail)
 go_loopw [7, 8, 9] (fun i j _ wr => ∃ a b : Nat, i = .int .i64 a ∧ j = .int .i64 b ∧ a ≤ b ∧ b ≤ l.length ∧ (∀ k (h : k < l.length), k < a → ltN l[k] n) ∧ (∀ k (h : k < l.length), b ≤ k → ¬ ltN l[k] n) ∧ wr = w) (fun i j _ _ => (intOf j).toNat - (intOf i).toNat)
 case atStart => exact ⟨0, l.length, by go_num, by go_num, Nat.zero_le _, Nat.le_refl _, fun k h h0 => absurd h0 (Nat.not_lt_zero _), fun k h h0 => by omega, rfl⟩
 case round =>
   obtain ⟨a, b, rfl, rfl, hab, hbl, hlo, hhi, rfl⟩ := hrel
   by_cases hlt : a < b
   · have hm : (a + b) / 2 < l.length := by omega
     obtain ⟨bk, o, rfl, hc⟩ := str_get hA hm
     have e1 : (0 : Int) ≤ (a : Int) + b := by omega
     have e2 : (a : Int) + b ≤ 200000 := by omega
     by_cases hlm : ltN l[(a + b) / 2] n
     · have hd : decide (ltN l[(a + b) / 2] n) = true := decide_eq_true hlm
       go_wp2_with (first | (refine (lessS _ _ _).mono ?_; rintro e w' ⟨rfl, rfl⟩))
       go_roundw
       case rel => exact ⟨(a + b) / 2 + 1, b, by go_num, rfl, by omega, hbl, fun k h hk => by
           rcases Nat.lt_or_ge k ((a + b) / 2) with q | q
           · exact ltN_trans (hs' k ((a + b) / 2) h hm q) hlm
           · have : k = (a + b) / 2 := by omega
             subst this; exact hlm, hhi, trivial⟩
       case measure => simp [intOf] <;> omega
     · have hd : decide (ltN l[(a + b) / 2] n) = false := decide_eq_false hlm
       go_wp2_with (first | (refine (lessS _ _ _).mono ?_; rintro e w' ⟨rfl, rfl⟩))
       go_roundw
       case rel => exact ⟨a, (a + b) / 2, rfl, by go_num, by omega, by omega, hlo, fun k h hk q => by
           rcases Nat.lt_or_ge ((a + b) / 2) k with r | r
           · exact hlm (ltN_trans (hs' ((a + b) / 2) k hm h r) q)
           · have : k = (a + b) / 2 := by omega
             subst this; exact hlm q, trivial⟩
       case measure => simp [intOf] <;> omega
   · obtain rfl : a = b := by omega
     by_cases hal : a < l.length
     · obtain ⟨bk, o, rfl, hc⟩ := str_get hA hal
       by_cases he : l[a] = n
       · have hin : n ∈ l := by rw [← he]; exact List.getElem_mem hal
         subst he
         go_wp2_with (first | (refine (isNaNS _ _).mono ?_; rintro e w' ⟨rfl, rfl⟩))
         go_returns
         exact ⟨⟨_, true, rfl, by simp [hin]⟩, rfl⟩
       · have hin : ¬ n ∈ l := fun q => by
           obtain ⟨k, hk, rfl⟩ := List.getElem_of_mem q
           rcases Nat.lt_trichotomy k a with r | r | r
           · exact ltN_irrefl _ (hlo k hk r)
           · subst r; exact he rfl
           · exact hhi a hal (Nat.le_refl _) (hs' a k hal hk r)
         have he2 : (l[a].toList == n.toList) = false := by
           simp only [beq_eq_false_iff_ne, ne_eq]
           intro q; rw [Lib.toList_data, Lib.toList_data] at q; exact he (ba_eq q)
         go_wp2_with (first | (refine (isNaNS _ _).mono ?_; rintro e w' ⟨rfl, rfl⟩))
         go_returns
         exact ⟨⟨_, false, rfl, by simp [hin]⟩, rfl⟩
     · have hin : ¬ n ∈ l := fun q => by
         obtain ⟨k, hk, rfl⟩ := List.getElem_of_mem q
         exact ltN_irrefl _ (hlo k hk (by omega))
       go_wp2_with (fail)
       go_returns
       exact ⟨⟨_, false, rfl, by simp [hin]⟩, rfl⟩
theorem hasC (F : Nat → Prop) (dg mg : Nat) (D : Dsk) (w : World) (h : DiskAt F w dg mg D) (n : ByteArray) (hF : ∀ k, F k → k < w.heap.size) :
   Calls Tryz.prog 92 #[BX dg, .string n] w fun e w' => (∃ f : Bool, e = .returned (.bool f) ∧ (f = true ↔ n ∈ D.M.map (·.1))) ∧ Ext w w' := by
 have hN := namesC F dg mg D w h hF
 have hle := h.le
 have hml := h.ml
 have hsr : (D.M.map (·.1)).Pairwise ltN := by
   obtain ⟨Af, cf, kg, Ac, cc, chs, K, hb, h1, h2, h3, rest⟩ := h.at_
   exact List.pairwise_map.2 h3.srt
 have hll : (D.M.map (·.1)).length ≤ 100000 := by rw [List.length_map]; omega
 generalize D.M.map (·.1) = l at *
 clear h
 go_enter Tryz.func92, Tryz.ntmps92
 go_wp2_with (first | (go_at_call 68; refine hN.mono ?_; rintro e w1 ⟨A, c, rfl, hA, hE⟩) | (go_at_call 175; refine (bsC F A c l n _ hA hsr hll).mono ?_; rintro e w2 ⟨⟨k, f, rfl, hf⟩, rfl⟩))
 go_ret
 exact ⟨⟨f, rfl, hf⟩, hE⟩
end K52
end Go.Proofs.YtbjeejimedhniaaGreatDoor
