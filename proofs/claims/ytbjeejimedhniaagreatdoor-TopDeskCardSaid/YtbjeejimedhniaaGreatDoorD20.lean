/- Contracts of the program's functions, as the walks of the law use them. -/
import Derived.Test.YtbjeejimedhniaaGreatDoorD19
import Derived.Test.YtbjeejimedhniaaGreatDoorD2
set_option linter.unusedVariables false
set_option linter.unusedSimpArgs false
set_option maxRecDepth 100000
set_option maxHeartbeats 2000000
namespace Go.Proofs.YtbjeejimedhniaaGreatDoor
namespace K74
open Go Go.RowKit
open KB KB2 K1 K2 K3 K5 K6 K7 K17 P2 P5 P6 P8 K31 K35 K38 K40 K42 K43 K44 K46 K54 K57 K72 K73
open K56 (set_last get_last)
open K19 (PartAt)
open K70 (PX)
theorem used_file (files : List FileM) (x : FileM) (n : ByteArray) (M : List (ByteArray × Nat)) (hM : SrtA M) (h : ∀ p ∈ M, p.2 < files.length) (hn : getA n M = none) : used (fsOf (files ++ [x]) (putA n files.length M)) = used (fsOf files M) + x.1.length := by
 have hg : getA n (fsOf (files ++ [x]) M) = none := by rw [getA_fsOf, hn]; rfl
 have ht := total_put (fun f : FileM => f.1.length) n ((files ++ [x]).getD files.length ([], 0)) (fsOf (files ++ [x]) M) (fsOf_srt hM)
 rw [hg] at ht
 have hx : (files ++ [x]).getD files.length ([], 0) = x := by simp [List.getD_eq_getElem?_getD]
 rw [hx] at ht
 rw [used, fsOf_put, hx, used]
 rw [fsOf_app files _ M h] at ht ⊢
 simpa using ht
abbrev recA (kd : Int) (vi : Value) (id : Int) : Value := .agg #[.int .i64 kd, .slice none 0 0, .int .i64 0, .int .i64 0, .int .i64 0, vi, .int .i64 id]
theorem writeSC (F : Nat → Prop) (tg dg mg : Nat) (pv : Value) (S : StM) (hs : S.s.Ok) (rows : List Row) (hro : PartOk S.s rows) (w : World) (h : StoreAt F w tg dg mg pv S) (hid : S.next < 100) (hl : S.D.lim + 20 ≤ 100000) (hM : S.D.M.length < 200) (hno : getA (nameS S.next) S.D.M = none) (hem : getA ⟨#[]⟩ S.D.M = none)
   (li : Nat) (hli : getA logS S.D.M = some li) (lg : List Int) (ls : Int) (hlf : S.D.files[li]? = some (lg, ls)) (kd : Int) (Av : Option Addr) (nv cv : Nat) (rc : List Int) (ids2 : List Int) (hu : used S.D.fs + (partB S.s rows).length + rc.length ≤ S.D.quota) (hls : lg.length + rc.length ≤ 10000000)
   (Ar : Option Addr) (cr : Nat) (hrows : rdRow.Sl (Fv (SF F tg dg mg) pv) w Ar cr rows)
   (hput : ∀ W, Keep (SF F tg dg mg) w W → Calls Tryz.prog 89 #[recA kd (.slice Av nv cv) S.next] W fun e w' => ∃ A c, e = .returned (.tuple #[.slice A rc.length c, .bool true]) ∧ rdU8.Sl (DF (Fv (fun k => F k ∨ k = tg) pv) dg mg) w' A c rc ∧ Ext W w')
   (happ : ∀ W A c Ai ci, Keep (SF F tg dg mg) w W → (rdInt .i64).Sl (Fv (SF F tg dg mg) pv) W Ai ci S.ids → Calls Tryz.prog 76 #[stV A c S.s Ai ci S.ids S.next, recA kd (.slice Av nv cv) S.next] W fun e w' => ∃ Ai2 ci2, e = .returned (.tuple #[stV A c S.s Ai2 ci2 ids2 (S.next + 1), .bool true]) ∧ (rdInt .i64).Sl (Fv (SF F tg dg mg) pv) w' Ai2 ci2 ids2 ∧ Ext W w')
   (hF : ∀ k, F k → k < w.heap.size) :
   Calls Tryz.prog 29 #[PX tg, .slice Ar rows.length cr, recA kd (.slice Av nv cv) 0] w fun e w' => ∃ g, e = .returned (.tuple #[PX g, .int .i64 0]) ∧ w.heap.size ≤ g ∧ PartAt (Fv (SF F tg dg mg) pv) w' g S.s rows ∧ StoreAt F w' tg dg mg pv { S with ids := ids2, next := S.next + 1, D := wroteD S.D (nameS S.next) (partB S.s rows) li (lg ++ rc) } ∧ Keep (fun k => k = tg ∨ k = dg ∨ k = mg) w w' := by
 obtain ⟨x, hx⟩ : ∃ x, w.heap.size = x := ⟨_, rfl⟩
 have hSF := SFlt h hF
 obtain ⟨ft, td, tm, hD, hpp, hfar, A, c, Ai, ci, hb, hA, hi⟩ := h
 have htl := blk_lt hb
 have htx : tg < x := hx ▸ htl
 have htx1 : tg < x + 1 := by omega
 have nx0 : ¬ tg = x := by omega
 have nx1 : ¬ tg = x + 1 := by omega
 have nx2 : ¬ tg = x + 1 + 1 := by omega
 have hw1 : IntKind.i64.wrap ((S.next : Int) + 1) = ((S.next + 1 : Nat) : Int) := by rw [IntKind.wrap_i64]; omega
 (have p0 := bC (hb) 0; have pf0 := bF (hb) 0; have p1 := bC (hb) 1; have pf1 := bF (hb) 1; have p2 := bC (hb) 2; have pf2 := bF (hb) 2; have p3 := bC (hb) 3; have pf3 := bF (hb) 3; have p4 := bC (hb) 4; have pf4 := bF (hb) 4; have p5 := bC (hb) 5; have pf5 := bF (hb) 5; have p6 := bC (hb) 6; have pf6 := bF (hb) 6; have p7 := bC (hb) 7; have pf7 := bF (hb) 7; have p8 := bC (hb) 8; have pf8 := bF (hb) 8)
 go_enter Tryz.func29, Tryz.ntmps29
 go_wp2_with (fail)
 have hb0 : (w.setCell ⟨tg, 6, none⟩ (.int .i64 ((S.next : Int) + 1))).heap[tg]? = some (.cells (stCells dg A c S.s Ai S.ids.length ci (S.next + 1) pv) 85 (0, 0)) := bS hb 6 _
 have K0 := kS1 w tg 6 (.int .i64 ((S.next : Int) + 1))
 have hx0 : (w.setCell ⟨tg, 6, none⟩ (.int .i64 ((S.next : Int) + 1))).heap.size = x := by simp [hx]
 generalize (w.setCell ⟨tg, 6, none⟩ (.int .i64 ((S.next : Int) + 1))) = w0 at *
 have hE1 := (((Ext.refl w0).alloc (.cells #[PX tg] 29)).alloc (.cells #[.int .i64 kd, .slice none 0 0, .int .i64 0, .int .i64 0, .int .i64 0, .slice Av nv cv, .int .i64 S.next] 92)).alloc (.cells #[.slice A S.s.types.length c, .int .i64 S.s.keys, .int .i64 S.s.mode, .int .i64 S.s.grain, .slice Ai S.ids.length ci, .int .i64 S.next] 82)
 have B1 := bO2 (o' := .cells #[.slice A S.s.types.length c, .int .i64 S.s.keys, .int .i64 S.s.mode, .int .i64 S.s.grain, .slice Ai S.ids.length ci, .int .i64 S.next] 82) (bO2 (o' := .cells #[.int .i64 kd, .slice none 0 0, .int .i64 0, .int .i64 0, .int .i64 0, .slice Av nv cv, .int .i64 S.next] 92) (bN w0 (.cells #[PX tg] 29)))
 have B2 := bO2 (o' := .cells #[.slice A S.s.types.length c, .int .i64 S.s.keys, .int .i64 S.s.mode, .int .i64 S.s.grain, .slice Ai S.ids.length ci, .int .i64 S.next] 82) (bN (w0.alloc (.cells #[PX tg] 29)) (.cells #[.int .i64 kd, .slice none 0 0, .int .i64 0, .int .i64 0, .int .i64 0, .slice Av nv cv, .int .i64 S.next] 92))
 have B3 := bN ((w0.alloc (.cells #[PX tg] 29)).alloc (.cells #[.int .i64 kd, .slice none 0 0, .int .i64 0, .int .i64 0, .int .i64 0, .slice Av nv cv, .int .i64 S.next] 92)) (.cells #[.slice A S.s.types.length c, .int .i64 S.s.keys, .int .i64 S.s.mode, .int .i64 S.s.grain, .slice Ai S.ids.length ci, .int .i64 S.next] 82)
 simp only [World.size_alloc, hx0] at B1 B2 B3
 clear p0 pf0 p1 pf1 p2 pf2 p3 pf3 p4 pf4 p5 pf5 p6 pf6 p7 pf7 p8 pf8
 generalize ((w0.alloc (.cells #[PX tg] 29)).alloc (.cells #[.int .i64 kd, .slice none 0 0, .int .i64 0, .int .i64 0, .int .i64 0, .slice Av nv cv, .int .i64 S.next] 92)).alloc (.cells #[.slice A S.s.types.length c, .int .i64 S.s.keys, .int .i64 S.s.mode, .int .i64 S.s.grain, .slice Ai S.ids.length ci, .int .i64 S.next] 82) = w1 at *
 refine (nameC S.next hid w1).mono ?_; rintro e w2 ⟨rfl, hw⟩; rw [hw]; clear hw
 -- the part's bytes
 have hb1 := hE1.blk hb0
 have K1 : Keep (fun k => k = tg) w w1 := K0.post hE1
 have hsp : ∀ k, k = tg → SF F tg dg mg k := fun k q => .inl (.inr q)
 have hA1 : SchAt (Fv (SF F tg dg mg) pv) w1 A c S.s := Rd.Sl.keep hA (K1.mono (fun k _ q => .inl (hsp k q)))
 have hr1 := hrows.keep (K1.mono (fun k _ q => .inl (hsp k q)))
 have hge := hpp.ge
 have hFP : ∀ k, Fv (SF F tg dg mg) pv k → k < w.heap.size := fun k q => q.elim (hSF k) (fun q => (hge k q).2)
 have hEt := (Ext.refl w1).alloc (.cells #[.string (nameS S.next)] 9)
 have Bt := bN w1 (.cells #[.string (nameS S.next)] 9)
 have htw1 := blk_lt hb1
 have hxw1 := blk_lt B1
 have b0 := bC B1 0
 (have p0 := bC (hb1) 0; have p1 := bC (hb1) 1; have p2 := bC (hb1) 2; have p3 := bC (hb1) 3; have p4 := bC (hb1) 4; have p5 := bC (hb1) 5; have p6 := bC (hb1) 6; have p7 := bC (hb1) 7; have p8 := bC (hb1) 8)
 go_wp2_with (fail)
 generalize hyt : w1.heap.size = yt at *
 have hyx : x + 1 + 1 < yt := hyt ▸ blk_lt B3
 replace hb1 := hEt.blk hb1
 replace B1 := hEt.blk B1
 replace B2 := hEt.blk B2
 replace B3 := hEt.blk B3
 replace K1 := K1.post hEt
 replace hA1 := Rd.Sl.ext hA1 hEt
 replace hr1 := hr1.ext hEt
 clear p0 p1 p2 p3 p4 p5 p6 p7 p8 b0 hE1
 generalize (w1.alloc (.cells #[.string (nameS S.next)] 9)) = w2 at *
 refine (writeC (Fv (SF F tg dg mg) pv) A c S.s Ar cr rows w2 hA1 hr1 hro (fun k q => Nat.lt_of_lt_of_le (hFP k q) K1.size)).mono ?_; rintro e w3 ⟨A3, c3, rfl, hs3, hE3⟩
 replace hb1 := hE3.blk hb1
 replace B1 := hE3.blk B1
 replace B2 := hE3.blk B2
 replace B3 := hE3.blk B3
 replace Bt := hE3.blk Bt
 replace K1 := K1.post hE3
 clear hA1 hr1 hEt hE3
 go_wp2_with (fail)
 have hdl := hD.lt
 have hF' : ∀ k, Fv (fun k => F k ∨ k = tg) pv k → k < w.heap.size := fun k q => q.elim (fun q => q.elim (hF k) (fun q => by omega)) (fun q => (hge k q).2)
 have nt : ¬ Two' dg mg tg := fun q => q.elim td tm
 have n0 : ¬ Two' dg mg x := fun q => by rcases q with q | q <;> omega
 have n1 : ¬ Two' dg mg (x + 1) := fun q => by rcases q with q | q <;> omega
 have n2 : ¬ Two' dg mg (x + 1 + 1) := fun q => by rcases q with q | q <;> omega
 have ny : ¬ Two' dg mg yt := fun q => by rcases q with q | q <;> omega
 have hz := nameS_size S.next hid
 obtain ⟨i1, i2, i3, hsrt⟩ : (∀ p ∈ S.D.M, p.2 < S.D.files.length) ∧ (∀ f ∈ S.D.files, f.1.length ≤ 10000000) ∧ True ∧ SrtA S.D.M := by
   obtain ⟨_, _, _, _, _, h8, _, _, _, h12, Af, cff, kg, Ac, cc, chs, K, _, _, _, h3, _⟩ := hD
   exact ⟨h8, h12, trivial, h3.srt⟩
 have hD3 := hD.keep (K1.mono (G := Fv (fun k => F k ∨ k = tg) pv) (fun k _ q => .inl (.inr q)))
 have hcr := fun W (hW : Ext w3 W) => createC _ dg mg S.D W (hD3.ext hW) (by omega) (nameS S.next) (by omega) (by omega) (nameS_ne _) hM hno hem (fun k q => Nat.lt_of_lt_of_le (hF' k q) (Nat.le_trans K1.size hW.size))
 have p0 := bC hb1 0
 have b0 := bC B1 0
 have t0 := bC Bt 0
 go_still_tail 5, (by kernel_rfl)
 change wpList _ _ _ _ _ w3.drew
 go_wp2_with (first | (go_at_call 65; with_reducible refine Calls.mono (hcr _ ?_) ?_; exact XE; rintro e w4 ⟨rfl, hD4, k4⟩))
 have k4' : Keep (Two' dg mg) w3 w4 := k4.pre XE
 clear k4 hcr p0 b0 t0
 replace hb1 := k4'.blk nt hb1
 replace B1 := k4'.blk n0 B1
 replace B2 := k4'.blk n1 B2
 replace B3 := k4'.blk n2 B3
 replace Bt := k4'.blk ny Bt
 have hs4 := hs3.keep (k4'.mono (fun k _ q => q.elim (fun q => .inl (.inr (.inl q))) (fun q => .inl (.inr (.inr q)))))
 have hg4 : getA (nameS S.next) (putA (nameS S.next) S.D.files.length S.D.M) = some S.D.files.length := by rw [getA_put, if_pos rfl]
 have hsl4 : rdU8.Sl (DF (Fv (fun k => F k ∨ k = tg) pv) dg mg) w4 A3 c3 (partB S.s rows) := hs4.narrow Nat.one_pos (fun k _ q => by
   rcases q with (q | q) | q | q
   · exact .inl (.inl q)
   · exact .inr q
   · exact .inl (.inr (.inl q))
   · exact .inl (.inr (.inr q)))
 have hu4 : used (fsOf (S.D.files ++ [([], 0)]) (putA (nameS S.next) S.D.files.length S.D.M)) = used S.D.fs := used_new _ _ _ hsrt i1 hno
 have hap := fun W (hW : Ext w4 W) => appendC _ dg mg _ W (hD4.ext hW) (by show S.D.lim + 3 + 1 ≤ _; omega) (nameS S.next) (by omega) S.D.files.length hg4 [] 0 (get_last _ _) A3 c3 (partB S.s rows) (hsl4.ext hW) (by show used (fsOf _ _) + _ ≤ S.D.quota; rw [hu4]; omega) (by simp only [List.length_nil]; have := hro.small; omega) (fun k q => Nat.lt_of_lt_of_le (hF' k q) (Nat.le_trans (Nat.le_trans K1.size k4'.size) hW.size))
 have p0 := bC hb1 0
 have b0 := bC B1 0
 have t0 := bC Bt 0
 have K4 : Keep (fun k => k = tg ∨ Two' dg mg k) w w4 := K1.or k4'
 clear hs3 k4' K1 hD3
 go_still_tail 6, (by kernel_rfl)
 change wpList _ _ _ _ _ w4.drew
 go_wp2_with (first | (go_at_call 66; with_reducible refine Calls.mono (hap _ ?_) ?_; exact XE; rintro e w5 ⟨rfl, hD5, k5⟩; have k5' : Keep (Two' dg mg) w4 w5 := k5.pre XE; clear p0 b0 t0; have p0 := bC (k5'.blk nt hb1) 0; have b0 := bC (k5'.blk n0 B1) 0))
 clear k5 hap p0 b0
 rw [List.nil_append, set_last] at hD5
 replace hb1 := k5'.blk nt hb1
 replace B1 := k5'.blk n0 B1
 replace B2 := k5'.blk n1 B2
 replace B3 := k5'.blk n2 B3
 replace Bt := k5'.blk ny Bt
 have hs5 := hs4.keep (k5'.mono (fun k _ q => q.elim (fun q => .inl (.inr (.inl q))) (fun q => .inl (.inr (.inr q)))))
 have hEf := (Ext.refl w5).alloc (.cells #[.func (.func 70) #[] #[PX x, PX yt], .func (.func 72) #[PX dg] #[], .func (.func 73) #[] #[PX x, PX (x + 1)]] 151)
 have Bf := bN w5 (.cells #[.func (.func 70) #[] #[PX x, PX yt], .func (.func 72) #[PX dg] #[], .func (.func 73) #[] #[PX x, PX (x + 1)]] 151)
 have hK05 : Keep (fun k => k = tg ∨ Two' dg mg k) w w5 := K4.trans (k5'.mono (fun _ _ q => .inr q))
 have hyt5 : yt < w5.heap.size := blk_lt Bt
 generalize hys : w5.heap.size = ys at *
 replace hb1 := hEf.blk hb1
 replace B1 := hEf.blk B1
 replace B2 := hEf.blk B2
 replace B3 := hEf.blk B3
 replace Bt := hEf.blk Bt
 replace hs5 := hs5.ext hEf
 replace hD5 := hD5.ext hEf
 have hK06 := hK05.post hEf
 clear K4 k5' hs4 hsl4 hD4 hK05 K0 hEf
 generalize (w5.alloc (.cells #[.func (.func 70) #[] #[PX x, PX yt], .func (.func 72) #[PX dg] #[], .func (.func 73) #[] #[PX x, PX (x + 1)]] 151)) = w6 at *
 have nG : ∀ k, x ≤ k → ¬ (k = tg ∨ Two' dg mg k) := fun k hk q => by rcases q with q | q | q <;> omega
 have hGS : ∀ k, (k = tg ∨ Two' dg mg k) → SF F tg dg mg k := fun k q => by
   rcases q with q | q | q
   · exact .inl (.inr q)
   · exact .inr (.inl q)
   · exact .inr (.inr q)
 have hKS : ∀ W, Keep (fun k => k = tg ∨ Two' dg mg k) w W → Keep (SF F tg dg mg) w W := fun W k => k.mono (fun k _ q => hGS k q)
 have hu6 : used (fsOf (S.D.files ++ [(((partB S.s rows), ((partB S.s rows).length : Int)) : FileM)]) (putA (nameS S.next) S.D.files.length S.D.M)) = used S.D.fs + (partB S.s rows).length := used_file _ _ _ _ hsrt i1 hno
 have hlil : li < S.D.files.length := i1 _ (getA_mem hli)
 have hli4 : getA logS (putA (nameS S.next) S.D.files.length S.D.M) = some li := by
   rw [getA_put, if_neg (fun e => (nameS_log S.next).1 e.symm)]; exact hli
 have hlf4 : ∀ z : FileM, (S.D.files ++ [z])[li]? = some (lg, ls) := fun z => by rw [List.getElem?_append_left hlil]; exact hlf
 have hF6 : ∀ k, Fv (fun k => F k ∨ k = tg) pv k → k < w6.heap.size := fun k q => Nat.lt_of_lt_of_le (hF' k q) hK06.size
 refine wp_loop_rounds 4 ?_
 rw [rounds_succ]
 have hc := fun W (hW : Ext w6 W) => wr1C _ tg dg mg _ W (hD5.ext hW) (by show S.D.lim + 3 + 1 + 1 ≤ _; omega) (nameS S.next) (by omega) S.D.files.length hg4 (partB S.s rows) 0 (get_last _ _) (FExt hF6 hW) x yt (hW.cell (bC B1 0)) (hW.cell (bC Bt 0)) (hW.cell (bC hb1 0))
 have f0 := bC Bf 0
 have b0 := bC B1 0
 have hen := fun W (hW : W.heap[tg]? = some _) => endsC tg (PX dg) (.slice A S.s.types.length c) (.int .i64 S.s.keys) (.int .i64 S.s.mode) (.int .i64 S.s.grain) (.slice Ai S.ids.length ci) (.int .i64 (S.next + 1 : Nat)) pv W hW
 have keep : ∀ w', Keep (fun k => k = tg ∨ Two' dg mg k) w6 w' → Keep (fun k => k = tg ∨ Two' dg mg k) w6 w' ∧ w'.cell? ⟨x, 0, none⟩ = some (PX tg) := fun w' h => ⟨h, h.cell (nG x (Nat.le_refl _)) b0⟩
 go_wp2_with (fail)
 go_region_held3 (fun w' => Keep (fun k => k = tg ∨ Two' dg mg k) w6 w' ∧ w'.cell? ⟨x, 0, none⟩ = some (PX tg)) (((try dsimp only); refine keep _ ?_; first | with_reducible assumption | exact (Ext.keep (w := w6) XE _))) (first | (go_at_call 70; with_reducible refine Calls.mono (hc _ ?_) ?_; exact XE; rintro e w7 ⟨rfl, hDw7, ka⟩; have ka' : Keep (Two' dg mg) w6 w7 := ka.pre XE; have hba := ka'.blk nt hb1; have kg : Keep (fun k => k = tg ∨ Two' dg mg k) w6 w7 := ka'.mono (fun _ _ q => .inr q)) | (go_at_call 75; with_reducible refine Calls.mono (hen _ ?_) ?_; exact hba; rintro e w8 ⟨rfl, hbb, kb⟩; have kh : Keep (fun k => k = tg ∨ Two' dg mg k) w6 w8 := kg.trans (kb.mono (fun _ _ q => .inl q))))
 (try simp only [Exit.inBlock, Exit.then])
 go_wp2_with (fail)
 have hDw8 := hDw7.keep (kb.mono (G := Fv (fun k => F k ∨ k = tg) pv) (fun _ _ q => .inl (.inr q)))
 clear hc hen keep f0 b0 hDw7 hba hb1
 have hb1 := hbb
 replace B1 := kh.blk (nG _ (by omega)) B1
 replace B2 := kh.blk (nG _ (by omega)) B2
 replace B3 := kh.blk (nG _ (by omega)) B3
 replace Bt := kh.blk (nG _ (by omega)) Bt
 replace Bf := kh.blk (nG _ (by omega)) Bf
 replace hs5 := hs5.keep (kh.mono (fun k _ q => .inl (hGS k q)))
 have hFw8 : ∀ k, Fv (fun k => F k ∨ k = tg) pv k → k < w8.heap.size := fun k q => Nat.lt_of_lt_of_le (hF6 k q) kh.size
 have hK0w8 := hK06.trans kh
 clear hbb ka ka' kg
 rw [set_last] at hDw8
 rw [rounds_succ]
 have hc := fun W (hW : Ext w8 W) => syncDirC _ dg mg _ W (hDw8.ext hW) (by show S.D.lim + 3 + 1 + 1 + 1 ≤ _; omega) (FExt hFw8 hW)
 have f0 := bC Bf 1
 have b0 := bC B1 0
 have hen := fun W (hW : W.heap[tg]? = some _) => endsC tg (PX dg) (.slice A S.s.types.length c) (.int .i64 S.s.keys) (.int .i64 S.s.mode) (.int .i64 S.s.grain) (.slice Ai S.ids.length ci) (.int .i64 (S.next + 1 : Nat)) pv W hW
 have keep : ∀ w', Keep (fun k => k = tg ∨ Two' dg mg k) w8 w' → Keep (fun k => k = tg ∨ Two' dg mg k) w8 w' ∧ w'.cell? ⟨x, 0, none⟩ = some (PX tg) := fun w' h => ⟨h, h.cell (nG x (Nat.le_refl _)) b0⟩
 go_wp2_with (fail)
 go_region_held3 (fun w' => Keep (fun k => k = tg ∨ Two' dg mg k) w8 w' ∧ w'.cell? ⟨x, 0, none⟩ = some (PX tg)) (((try dsimp only); refine keep _ ?_; first | with_reducible assumption | exact (Ext.keep (w := w8) XE _))) (first | (go_at_call 72; with_reducible refine Calls.mono (hc _ ?_) ?_; exact XE; rintro e w9 ⟨rfl, hDw9, ka⟩; have ka' : Keep (Two' dg mg) w8 w9 := ka.pre XE; have hba := ka'.blk nt hb1; have kg : Keep (fun k => k = tg ∨ Two' dg mg k) w8 w9 := ka'.mono (fun _ _ q => .inr q)) | (go_at_call 75; with_reducible refine Calls.mono (hen _ ?_) ?_; exact hba; rintro e w10 ⟨rfl, hbb, kb⟩; have kh : Keep (fun k => k = tg ∨ Two' dg mg k) w8 w10 := kg.trans (kb.mono (fun _ _ q => .inl q))))
 (try simp only [Exit.inBlock, Exit.then])
 go_wp2_with (fail)
 have hDw10 := hDw9.keep (kb.mono (G := Fv (fun k => F k ∨ k = tg) pv) (fun _ _ q => .inl (.inr q)))
 clear hc hen keep f0 b0 hDw9 hba hb1
 have hb1 := hbb
 replace B1 := kh.blk (nG _ (by omega)) B1
 replace B2 := kh.blk (nG _ (by omega)) B2
 replace B3 := kh.blk (nG _ (by omega)) B3
 replace Bt := kh.blk (nG _ (by omega)) Bt
 replace Bf := kh.blk (nG _ (by omega)) Bf
 replace hs5 := hs5.keep (kh.mono (fun k _ q => .inl (hGS k q)))
 have hFw10 : ∀ k, Fv (fun k => F k ∨ k = tg) pv k → k < w10.heap.size := fun k q => Nat.lt_of_lt_of_le (hFw8 k q) kh.size
 have hK0w10 := hK0w8.trans kh
 clear hbb ka ka' kg
 rw [rounds_succ]
 have hc := fun W (hW : Ext w10 W) => wr2C _ tg dg mg _ W (hDw10.ext hW) (by show S.D.lim + 3 + 1 + 1 + 1 + 4 ≤ _; omega) (FExt hFw10 hW) (.int .i64 kd) (.slice none 0 0) (.int .i64 0) (.int .i64 0) (.int .i64 0) (.slice Av nv cv) (.int .i64 S.next) rc (fun W' hW' => hput W' (hKS W' (hK0w10.trans ((hW.trans hW').keep _)))) li hli4 lg ls (by exact hlf4 _) (by show used (fsOf _ _) + _ ≤ S.D.quota; rw [hu6]; exact hu) hls x (x + 1) (hW.cell (bC B1 0)) (hW.blk B2) (hW.cell (bC hb1 0))
 have f0 := bC Bf 2
 have b0 := bC B1 0
 have hen := fun W (hW : W.heap[tg]? = some _) => endsC tg (PX dg) (.slice A S.s.types.length c) (.int .i64 S.s.keys) (.int .i64 S.s.mode) (.int .i64 S.s.grain) (.slice Ai S.ids.length ci) (.int .i64 (S.next + 1 : Nat)) pv W hW
 have keep : ∀ w', Keep (fun k => k = tg ∨ Two' dg mg k) w10 w' → Keep (fun k => k = tg ∨ Two' dg mg k) w10 w' ∧ w'.cell? ⟨x, 0, none⟩ = some (PX tg) := fun w' h => ⟨h, h.cell (nG x (Nat.le_refl _)) b0⟩
 go_wp2_with (fail)
 go_region_held3 (fun w' => Keep (fun k => k = tg ∨ Two' dg mg k) w10 w' ∧ w'.cell? ⟨x, 0, none⟩ = some (PX tg)) (((try dsimp only); refine keep _ ?_; first | with_reducible assumption | exact (Ext.keep (w := w10) XE _))) (first | (go_at_call 73; with_reducible refine Calls.mono (hc _ ?_) ?_; exact XE; rintro e w11 ⟨rfl, hDw11, ka⟩; have ka' : Keep (Two' dg mg) w10 w11 := ka.pre XE; have hba := ka'.blk nt hb1; have kg : Keep (fun k => k = tg ∨ Two' dg mg k) w10 w11 := ka'.mono (fun _ _ q => .inr q)) | (go_at_call 75; with_reducible refine Calls.mono (hen _ ?_) ?_; exact hba; rintro e w12 ⟨rfl, hbb, kb⟩; have kh : Keep (fun k => k = tg ∨ Two' dg mg k) w10 w12 := kg.trans (kb.mono (fun _ _ q => .inl q))))
 (try simp only [Exit.inBlock, Exit.then])
 go_wp2_with (fail)
 have hDw12 := hDw11.keep (kb.mono (G := Fv (fun k => F k ∨ k = tg) pv) (fun _ _ q => .inl (.inr q)))
 clear hc hen keep f0 b0 hDw11 hba hb1
 have hb1 := hbb
 replace B1 := kh.blk (nG _ (by omega)) B1
 replace B2 := kh.blk (nG _ (by omega)) B2
 replace B3 := kh.blk (nG _ (by omega)) B3
 replace Bt := kh.blk (nG _ (by omega)) Bt
 replace Bf := kh.blk (nG _ (by omega)) Bf
 replace hs5 := hs5.keep (kh.mono (fun k _ q => .inl (hGS k q)))
 have hFw12 : ∀ k, Fv (fun k => F k ∨ k = tg) pv k → k < w12.heap.size := fun k q => Nat.lt_of_lt_of_le (hFw10 k q) kh.size
 have hK0w12 := hK0w10.trans kh
 clear hbb ka ka' kg
 rw [rounds_succ]
 have hsz12 := hK0w12.size
 have hA12 : SchAt (Fv (SF F tg dg mg) pv) w12 A c S.s := Rd.Sl.keep hA (hK0w12.mono (fun k _ q => .inl (hGS k q)))
 have hi12 := hi.keep (hK0w12.mono (G := Fv (SF F tg dg mg) pv) (fun k _ q => .inl (hGS k q)))
 have hap := fun W (hW : Ext w12 W) => happ W A c Ai ci (hKS W (hK0w12.post hW)) (hi12.ext hW)
 have hop := fun W A' c' (hW : rdU8.Sl (Fv (SF F tg dg mg) pv) W A' c' (partB S.s rows)) (hFW : ∀ k, Fv (SF F tg dg mg) pv k → k < W.heap.size) => K19.openPC (Fv (SF F tg dg mg) pv) A' c' S.s rows (partB S.s rows) rfl W hW hro hFW
 clear hput happ hA hi
 (have p0 := bC (hb1) 0; have pf0 := bF (hb1) 0; have p1 := bC (hb1) 1; have pf1 := bF (hb1) 1; have p2 := bC (hb1) 2; have pf2 := bF (hb1) 2; have p3 := bC (hb1) 3; have pf3 := bF (hb1) 3; have p4 := bC (hb1) 4; have pf4 := bF (hb1) 4; have p5 := bC (hb1) 5; have pf5 := bF (hb1) 5; have p6 := bC (hb1) 6; have pf6 := bF (hb1) 6; have p7 := bC (hb1) 7; have pf7 := bF (hb1) 7; have p8 := bC (hb1) 8; have pf8 := bF (hb1) 8)
 have b0 := bC B1 0
 (have q0 := bC (B2) 0; have q1 := bC (B2) 1; have q2 := bC (B2) 2; have q3 := bC (B2) 3; have q4 := bC (B2) 4; have q5 := bC (B2) 5; have q6 := bC (B2) 6)
 (have r0 := bC (B3) 0; have r1 := bC (B3) 1; have r2 := bC (B3) 2; have r3 := bC (B3) 3; have r4 := bC (B3) 4; have r5 := bC (B3) 5)
 go_wp2_with (fail)
 clear pf0 pf7 pf8 Bf Bt B2 B3 hK06
 go_region_law (first | (go_simp; go_at_call 76; with_reducible refine Calls.mono (hap _ ?_) ?_; exact XE; rintro e w13 ⟨Ai2, ci2, rfl, hi13, hE13⟩; have hx13 : Ext w12 w13 := Ext.trans XE hE13; (have z0 := bC (hx13.blk hb1) 0; have zf0 := bF (hx13.blk hb1) 0; have z1 := bC (hx13.blk hb1) 1; have zf1 := bF (hx13.blk hb1) 1; have z2 := bC (hx13.blk hb1) 2; have zf2 := bF (hx13.blk hb1) 2; have z3 := bC (hx13.blk hb1) 3; have zf3 := bF (hx13.blk hb1) 3; have z4 := bC (hx13.blk hb1) 4; have zf4 := bF (hx13.blk hb1) 4; have z5 := bC (hx13.blk hb1) 5; have zf5 := bF (hx13.blk hb1) 5; have z6 := bC (hx13.blk hb1) 6; have zf6 := bF (hx13.blk hb1) 6; have z7 := bC (hx13.blk hb1) 7; have zf7 := bF (hx13.blk hb1) 7; have z8 := bC (hx13.blk hb1) 8; have zf8 := bF (hx13.blk hb1) 8); have b13 := bC (hx13.blk B1) 0; dsimp only))
 all_goals
   (try simp only [Exit.inBlock, Exit.then])
   clear p0 p1 p2 p3 p4 p5 p6 p7 p8 pf1 pf2 pf3 pf4 pf5 pf6 hap b0 q0 q1 q2 q3 q4 q5 q6 r0 r1 r2 r3 r4 r5
   go_wp2_with (fail)
   have s1 := bS (hx13.blk hb1) 1 (.slice A S.s.types.length c)
   have s2 := bS s1 2 (.int .i64 S.s.keys)
   have s3 := bS s2 3 (.int .i64 S.s.mode)
   have s4 := bS s3 4 (.int .i64 S.s.grain)
   have s5 := bS s4 5 (.slice Ai2 ids2.length ci2)
   have s6 := bS s5 6 (.int .i64 ((S.next : Int) + 1))
   have KW := ((((kS1 w13 tg 1 (.slice A S.s.types.length c)).trans (kS1 _ tg 2 (.int .i64 S.s.keys))).trans (kS1 _ tg 3 (.int .i64 S.s.mode))).trans (kS1 _ tg 4 (.int .i64 S.s.grain))).trans ((kS1 _ tg 5 (.slice Ai2 ids2.length ci2)).trans (kS1 _ tg 6 (.int .i64 ((S.next : Int) + 1))))
   clear s1 s2 s3 s4 s5 z0 z1 z2 z3 z4 z5 z6 z7 z8 zf0 zf1 zf2 zf3 zf4 zf5 zf6 zf7 zf8
   generalize ((((((w13.setCell ⟨tg, 1, none⟩ (.slice A S.s.types.length c)).setCell ⟨tg, 2, none⟩ (.int .i64 S.s.keys)).setCell ⟨tg, 3, none⟩ (.int .i64 S.s.mode)).setCell ⟨tg, 4, none⟩ (.int .i64 S.s.grain)).setCell ⟨tg, 5, none⟩ (.slice Ai2 ids2.length ci2)).setCell ⟨tg, 6, none⟩ (.int .i64 ((S.next : Int) + 1))) = w14 at *
   have hb14 : w14.heap[tg]? = some (.cells (stCells dg A c S.s Ai2 ids2.length ci2 (S.next + 1) pv) 85 (0, 0)) := s6
   have kfp : Keep (Fv (SF F tg dg mg) pv) w13 w14 := KW.mono (fun k _ q => .inl (hsp k q))
   have hsz14 : w.heap.size ≤ w14.heap.size := Nat.le_trans hsz12 (Nat.le_trans hx13.size KW.size)
   refine (hop w14 A3 c3 ((hs5.ext hx13).keep kfp) (fun k q => Nat.lt_of_lt_of_le (hFP k q) hsz14)).mono ?_; rintro e w15 ⟨g, rfl, hg, hpg, hE15⟩
   go_wp2
   go_returns
   have hKA : Keep (fun k => k = tg ∨ Two' dg mg k) w w14 := (hK0w12.post hx13).trans (KW.mono (fun _ _ q => .inl q))
   have hgef : ∀ k, pv.ownBlock = some k → ¬ (k = tg ∨ Two' dg mg k) := fun k hk q => hfar k hk (hGS k q)
   refine ⟨g, rfl, Nat.le_trans hsz14 hg, hpg, ⟨ft, td, tm, ?_, ?_, hfar, A, c, Ai2, ci2, hE15.blk hb14, ?_, ?_⟩, hKA.post hE15⟩
   · exact ((hDw12.ext hx13).keep (KW.mono (G := Fv (fun k => F k ∨ k = tg) pv) (fun _ _ q => .inl (.inr q)))).ext hE15
   · exact (hpp.keep2 (hKA.mono (fun k _ q => .inl (hGS k q))) (fun k hk => hKA.block k (hge k hk).2 (hgef k hk))).ext hE15
   · exact Rd.Sl.ext (Rd.Sl.keep (Rd.Sl.ext hA12 hx13) kfp) hE15
   · exact (hi13.keep kfp).ext hE15
end K74
namespace K75
open Go Go.RowKit
open KB KB2 K1 K2 K3 K5 K6 K7 K17 P2 P4 P5 P8 K25 K31 K35 K38 K54 K57 K71 K72 K74
open K19 (PartAt)
open K70 (PX)
open K65 (own_len)
theorem disk_narrow {F G : Nat → Prop} {w : World} {dg mg : Nat} {D : Dsk} (h : DiskAt F w dg mg D) (hg : ∀ k, k < w.heap.size → G k → F k) : DiskAt G w dg mg D := by
 have hlt := h.lt
 obtain ⟨fd, fm, le, sl, ql, h8, h9, h10, h11, h12, Af, cf, kg, Ac, cc, chs, K, hb, h1, h2, h3, h4, h5, h6, h7⟩ := h
 have hn : ∀ k, k < w.heap.size → DF G dg mg k → DF F dg mg k := fun k hk q => q.elim (fun q => .inl (hg k hk q)) .inr
 exact ⟨fun q => fd (hg dg hlt.1 q), fun q => fm (hg mg hlt.2 q), le, sl, ql, h8, h9, h10, h11, h12, Af, cf, kg, Ac, cc, chs, K, hb, h1.narrow (by decide) hn, h2.narrow (by decide) hn, h3, h4, h5, fun q => h6 (hg kg h4.lt q), h7⟩
theorem store_push {F : Nat → Prop} {w w' : World} {tg dg mg : Nat} {pv pv' : Value} {S : StM} {rows : List Row} (h : StoreAt F w tg dg mg pv S) (hF : ∀ k, F k → k < w.heap.size) (hown : (rdPart S.s).Own (SF F tg dg mg) 0 88 w' pv' (S.parts ++ [rows])) (hg : w.grownBy w' pv.ownBlock) (hat : At' w pv pv') :
   StoreAt F (w'.setCell ⟨tg, 7, none⟩ pv') tg dg mg pv' { S with parts := S.parts ++ [rows] } ∧ Keep (SB tg dg mg pv) w (w'.setCell ⟨tg, 7, none⟩ pv') := by
 have hSF := SFlt h hF
 obtain ⟨ft, td, tm, hd, hpp, hf, A, c, Ai, ci, hb, h1, h2⟩ := h
 have hge := hpp.ge
 have hpt : ¬ pv.ownBlock = some tg := fun e => hf tg e (.inl (.inr rfl))
 have hpt' : ¬ pv'.ownBlock = some tg := fun e => by
   rcases hat with q | q
   · exact hpt (q ▸ e)
   · rw [q] at e; cases e; exact absurd (blk_lt hb) (Nat.lt_irrefl _)
 have kg : Keep (fun k => pv.ownBlock = some k) w w' := Keep.of_grown hg (fun k hk _ => hk)
 have ks := kS1 w' tg 7 pv'
 have hbs := bS (kg.blk hpt hb) 7 pv'
 have hnew : ∀ k, k < w.heap.size → pv'.ownBlock = some k → pv.ownBlock = some k := fun k hk e => by
   rcases hat with q | q
   · rw [← q]; exact e
   · rw [q] at e; cases e; exact absurd hk (Nat.lt_irrefl _)
 have hN : ∀ {P : Nat → Prop} k, k < w.heap.size → ((Fv P pv) k ∨ pv'.ownBlock = some k) → Fv P pv k := fun k hk q => q.elim id (fun e => .inr (hnew k hk e))
 refine ⟨⟨ft, td, tm, ?_, ?_, ?_, A, c, Ai, ci, hbs, ?_, ?_⟩, ?_⟩
 · have d1 := (disk_narrow hd (G := fun k => Fv (fun k => F k ∨ k = tg) pv k ∨ pv'.ownBlock = some k) hN).keep (kg.mono (fun k _ q => .inl (.inr q)))
   exact disk_narrow (d1.keep (ks.mono (fun k _ q => .inl (.inl (.inr q))))) (fun k _ q => q.elim (fun q => .inl (.inl q)) .inr)
 · exact hown.keep2 (ks.mono (fun k _ q => .inl (.inl (.inr q)))) (fun k hk => ks.block k (hown.ge k hk).2 (fun e => hpt' (e ▸ hk)))
 · intro k hk q
   rcases hat with e | e
   · exact hf k (e ▸ hk) q
   · rw [e] at hk; cases hk; exact absurd (hSF _ q) (Nat.lt_irrefl _)
 · have d1 := Rd.Sl.keep (Rd.Sl.narrow Nat.one_pos h1 (G := fun k => Fv (SF F tg dg mg) pv k ∨ pv'.ownBlock = some k) hN) (kg.mono (fun k _ q => .inl (.inr q)))
   exact Rd.Sl.narrow Nat.one_pos (Rd.Sl.keep d1 (ks.mono (fun k _ q => .inl (.inl (.inl (.inr q)))))) (fun k _ q => q.elim (fun q => .inl (.inl q)) .inr)
 · have d1 := (h2.narrow Nat.one_pos (G := fun k => Fv (SF F tg dg mg) pv k ∨ pv'.ownBlock = some k) hN).keep (kg.mono (fun k _ q => .inl (.inr q)))
   exact (d1.keep (ks.mono (fun k _ q => .inl (.inl (.inl (.inr q)))))).narrow Nat.one_pos (fun k _ q => q.elim (fun q => .inl (.inl q)) .inr)
 · exact (kg.mono (fun k _ q => .inr (.inr (.inr q)))).trans (ks.mono (fun k _ q => .inl q))
theorem ownBlock_len (A : Option Addr) (n m c c' : Nat) : (Value.slice A n c).ownBlock = (Value.slice A m c').ownBlock := by cases A <;> rfl
def sumL (parts : List (List Row)) : Nat := (parts.map List.length).sum
theorem sum_take (parts : List (List Row)) (k : Nat) (hk : k < parts.length) : sumL (parts.take (k + 1)) = sumL (parts.take k) + parts[k].length := by
 rw [take_snoc parts hk, sumL, List.map_append, List.sum_append]; simp [sumL]
theorem sum_le (parts : List (List Row)) (k : Nat) : sumL (parts.take k) ≤ sumL parts := by
 have h := congrArg sumL (List.take_append_drop k parts)
 simp only [sumL, List.map_append, List.sum_append] at h ⊢
 omega
theorem sortS_len (s : Sch) (l : List Row) : (sortS s l).length = l.length := insSort_length _ _ _ _
theorem insertC (F : Nat → Prop) (tg dg mg : Nat) (pv : Value) (S : StM) (hs : S.s.Ok) (l : List Row) (hro : PartOk S.s (sortS S.s l)) (hlr : ∀ r ∈ l, RowOk S.s r) (h1 : 1 ≤ l.length) (h2 : l.length < 20) (w : World) (h : StoreAt F w tg dg mg pv S) (hid : S.next < 100) (hpn : S.parts.length < 40) (hin : S.ids.length < 40) (htot : l.length + sumL S.parts ≤ 2000) (hnx : ∀ n ∈ S.ids, n < S.next)
   (hl : S.D.lim + 20 ≤ 100000) (hM : S.D.M.length < 200) (hno : getA (nameS S.next) S.D.M = none) (hem : getA ⟨#[]⟩ S.D.M = none)
   (li : Nat) (hli : getA logS S.D.M = some li) (lg : List Int) (ls : Int) (hlf : S.D.files[li]? = some (lg, ls)) (hu : used S.D.fs + (partB S.s (sortS S.s l)).length + (recAdd S.next).length ≤ S.D.quota) (hls : lg.length + (recAdd S.next).length ≤ 10000000)
   (Al : Option Addr) (cl : Nat) (hrows : rdRow.Sl (Fv (SF F tg dg mg) pv) w Al cl l) (hF : ∀ k, F k → k < w.heap.size) :
   Calls Tryz.prog 9 #[PX tg, .slice Al l.length cl] w fun e w' => e = .returned (.int .i64 0) ∧ ∃ pv', StoreAt F w' tg dg mg pv' { S with ids := S.ids ++ [(S.next : Int)], next := S.next + 1, parts := S.parts ++ [sortS S.s l], D := wroteD S.D (nameS S.next) (partB S.s (sortS S.s l)) li (lg ++ recAdd S.next) } ∧ (∀ k, pv'.ownBlock = some k → pv.ownBlock = some k ∨ w.heap.size ≤ k) ∧ Keep (SB tg dg mg pv) w w' := by
 have hSF := SFlt h hF
 have hge := h.parts.ge
 have hFP : ∀ k, Fv (SF F tg dg mg) pv k → k < w.heap.size := fun k q => q.elim (hSF k) (fun q => (hge k q).2)
 obtain ⟨Ap, cp, rfl, hpsl⟩ := h.sl
 obtain ⟨A, c, Ai, ci, hb, hA, hi⟩ := h.at_
 have hz := sizesC F tg dg mg _ S w h (by omega) hF (Fv (SF F tg dg mg) (.slice Ap S.parts.length cp)) hFP
 have p8 := bC hb 8
 go_enter Tryz.func9, Tryz.ntmps9
 go_wp2_with (fail)
 refine hz.mono ?_; rintro e w1 ⟨Az, cz, rfl, hsz, hE1⟩
 clear hz p8
 go_wp2_with (fail)
 go_loopw [5, 19] (fun t i wr => ∃ k : Nat, i = .int .i64 k ∧ k ≤ S.parts.length ∧ t = .int .i64 (l.length + sumL (S.parts.take k) : Nat) ∧ wr = w1) (fun _ i _ => S.parts.length - (intOf i).toNat)
 case atStart => exact ⟨0, by go_num, Nat.zero_le _, by simp [sumL], rfl⟩
 case round =>
   obtain ⟨k, rfl, hkl, rfl, rfl⟩ := hrel
   by_cases hlt : k < S.parts.length
   · obtain ⟨b, o, rfl, hc⟩ := int_get hsz (k := k) (by simpa using hlt)
     rw [List.getElem_map] at hc
     have e1 := sum_take S.parts k hlt
     have e2 := sum_le S.parts (k + 1)
     have E1 := As.mk e1
     have E2 := As.mk e2
     clear e1 e2
     generalize sumL (S.parts.take k) = s1 at *
     go_wp2_with (fail)
     go_roundw
     case rel => exact ⟨k + 1, by go_num, by omega, by rw [E1.out]; congr 1; have := E1.out; have := E2.out; unfold wrap64; omega, trivial⟩
     case measure => simp [intOf] <;> omega
   · obtain rfl : k = S.parts.length := by omega
     rw [List.take_length]
     have d1 : decide (((40 : Nat) : Int) ≤ (S.parts.length : Int)) = false := decide_eq_false (by omega)
     have d1' : decide ((40 : Int) ≤ (S.parts.length : Int)) = false := decide_eq_false (by omega)
     have d2 : decide ((2000 : Int) < ((l.length + sumL S.parts : Nat) : Int)) = false := decide_eq_false (by omega)
     generalize l.length + sumL S.parts = tot at *
     have h' := h.ext hE1
     have hb1 := hE1.blk hb
     have hA1 := Rd.Sl.ext hA hE1
     have hr1 := hrows.ext hE1
     have hba := batchC _ A c S.s Al cl l wr hA1 hr1 hlr (by have := hs.n2; omega) h1 (by omega)
     (have p0 := bC (hb1) 0; have p1 := bC (hb1) 1; have p2 := bC (hb1) 2; have p3 := bC (hb1) 3; have p4 := bC (hb1) 4; have p5 := bC (hb1) 5; have p6 := bC (hb1) 6; have p7 := bC (hb1) 7; have p8 := bC (hb1) 8)
     clear hsz
     go_wp2_with (fail)
     refine hba.mono ?_; rintro e w2 ⟨rfl, hE2⟩
     clear p0 p1 p2 p3 p4 p5 p6 p7 p8 hba
     have h2' := h'.ext hE2
     have hb2 := hE2.blk hb1
     have hA2 := Rd.Sl.ext hA1 hE2
     have hr2 := hr1.ext hE2
     have hE02 := hE1.trans hE2
     (have p0 := bC (hb2) 0; have p1 := bC (hb2) 1; have p2 := bC (hb2) 2; have p3 := bC (hb2) 3; have p4 := bC (hb2) 4; have p5 := bC (hb2) 5; have p6 := bC (hb2) 6; have p7 := bC (hb2) 7; have p8 := bC (hb2) 8)
     go_wp2_with (fail)
     refine (sortC _ A c S.s Al cl l w2 hA2 hs hr2 hlr h2 (FExt hFP hE02)).mono ?_; rintro e w3 ⟨A3, c3, rfl, hs3, hE3⟩
     clear p0 p1 p2 p3 p4 p5 p6 p7 p8
     have h3 := h2'.ext hE3
     have hE03 := hE02.trans hE3
     have hF3 := FExt hF hE03
     have hSF3 := FExt hSF hE03
     have hFP3 := FExt hFP hE03
     go_wp2_with (fail)
     refine (writeSC F tg dg mg _ S hs (sortS S.s l) hro w3 h3 hid hl hM hno hem li hli lg ls hlf 2 none 0 0 (recAdd S.next) (S.ids ++ [(S.next : Int)]) hu hls A3 c3 hs3 (fun W k => putAddC _ S.next (by omega) W (fun j q => Nat.lt_of_lt_of_le (hFP3 j (by
       rcases q with (q | q) | q | q
       · exact .inl (.inl q)
       · exact .inr q
       · exact .inl (.inr (.inl q))
       · exact .inl (.inr (.inr q)))) k.size)) (fun W A' c' Ai' ci' k hii => applyAddC _ A' Ai' c' ci' S.s S.ids S.next S.next (by omega) (Int.le_refl _) hin W hii (fun j q => Nat.lt_of_lt_of_le (hFP3 j q) k.size)) hF3).mono ?_
     rintro e w4 ⟨g, rfl, hg, hpg, h4, k4⟩
     obtain ⟨A4, c4, Ai4, ci4, hb4, _, _⟩ := h4.at_
     have hEa := (Ext.refl w4).alloc (.cells #[PX g] 88)
     have h5 := h4.ext hEa
     have hF5 := fun k q => Nat.lt_of_lt_of_le (hF3 k q) (Nat.le_trans k4.size hEa.size)
     have htl4 := blk_lt hb4
     have hpush := fun w5 pv' (ho : (rdPart S.s).Own (SF F tg dg mg) 0 88 w5 pv' (S.parts ++ [sortS S.s l])) hgr hat => store_push (w' := w5) (pv' := pv') h5 hF5 ho hgr hat
     have hpt : ¬ (Value.slice Ap S.parts.length cp).ownBlock = some tg := fun e => h.far tg e (.inl (.inr rfl))
     (have p0 := bC (hb4) 0; have pf0 := bF (hb4) 0; have p1 := bC (hb4) 1; have pf1 := bF (hb4) 1; have p2 := bC (hb4) 2; have pf2 := bF (hb4) 2; have p3 := bC (hb4) 3; have pf3 := bF (hb4) 3; have p4 := bC (hb4) 4; have pf4 := bF (hb4) 4; have p5 := bC (hb4) 5; have pf5 := bF (hb4) 5; have p6 := bC (hb4) 6; have pf6 := bF (hb4) 6; have p7 := bC (hb4) 7; have pf7 := bF (hb4) 7; have p8 := bC (hb4) 8; have pf8 := bF (hb4) 8)
     clear h3 h2' h' h hA hA1 hA2 hi hr1 hr2 hrows hs3 hb hb1 hb2
     have hEb := hEa.blk hb4
     have htl5 : tg < (w4.alloc (.cells #[PX g] 88)).heap.size := blk_lt hEb
     go_wp2_with (first | (at_builtin; refine wpList_pushAt rfl (.tmp 67) (.tmp 69) 83 rfl (rdPart S.s) elPart rfl h5.parts rfl (heap_alloc_new w4 _) (y := sortS S.s l) ⟨g, rfl, hpg.ext hEa⟩ (by show (S.parts.length + 1) * 8 ≤ _; omega) (by unfold maxLen; show S.parts.length + 1 ≤ _; omega) (Nat.zero_le _) ?_; intro v' w5 hown5 hg5 hat5; have hb5 := (hg5.block tg htl5 (fun e => hpt e.symm)).trans hEb; have z7 := bC hb5 7; have zf7 := bF hb5 7; obtain ⟨A9, c9, rfl, hc9, _⟩ := own_len hown5))
     obtain ⟨g5, g6⟩ := hpush w5 _ hown5 hg5 hat5
     go_ret
     rw [show (S.parts ++ [sortS S.s l]).length = S.parts.length + 1 from by simp] at g5 g6
     refine ⟨rfl, _, g5, fun k hk => ?_, ?_⟩
     · have hk' : (Value.slice A9 (S.parts ++ [sortS S.s l]).length c9).ownBlock = some k := (ownBlock_len ..).trans hk
       rcases hat5 with q | q
       · have q' : (Value.slice A9 (S.parts ++ [sortS S.s l]).length c9).ownBlock = (Value.slice Ap S.parts.length cp).ownBlock := q
         left; rw [← q']; exact hk'
       · have q' : (Value.slice A9 (S.parts ++ [sortS S.s l]).length c9).ownBlock = some (w4.alloc (.cells #[PX g] 88)).heap.size := q
         right
         rw [q'] at hk'; cases hk'
         have := hE03.size; have := k4.size; have := hEa.size; omega
     · exact (((hE03.keep _).trans (k4.mono (fun k _ q => by
         rcases q with q | q | q
         · exact .inl q
         · exact .inr (.inl q)
         · exact .inr (.inr (.inl q))))).post hEa).trans g6
end K75
namespace K93
open Go Go.RowKit KB KB2 P2 K1 K2 K3 K42 K62 K70 K65 K71 K72 K75 K35 K88 K89 K90 K91 K92
theorem own_narrow {α : Type} {R : Rd α} {F G : Nat → Prop} {B : Nat} {e : TypeId} {w : World} {v : Value} {l : List α} (h : R.Own F B e w v l) (hG : ∀ k, k < w.heap.size → G k → F k) : R.Own G B e w v l := by
 obtain ⟨xs, ho, hC⟩ := h
 exact ⟨xs, ho, fun k x hk => R.narrow (fun i hi q => q.imp (hG i hi) id) (hC k x hk)⟩
theorem store_narrow {F G : Nat → Prop} {w : World} {tg dg mg : Nat} {pv : Value} {S : StM} (h : StoreAt F w tg dg mg pv S) (hg : ∀ k, k < w.heap.size → G k → F k) : StoreAt G w tg dg mg pv S := by
 obtain ⟨h1, h2, h3, h4, h5, h6, A, c, Ai, ci, hb, hA, hi⟩ := h
 have hS : ∀ k, k < w.heap.size → SF G tg dg mg k → SF F tg dg mg k := fun k hk q => q.imp (fun q => q.imp (hg k hk) id) id
 have hge := h5.ge
 refine ⟨fun q => h1 (hg _ (blk_lt hb) q), h2, h3, disk_narrow h4 (fun k hk q => q.imp (fun q => q.imp (hg k hk) id) id), own_narrow h5 hS, fun k hk q => h6 k hk (hS k (hge k hk).2 q), A, c, Ai, ci, hb, ?_, ?_⟩
 · exact Rd.Sl.narrow Nat.one_pos hA (fun k hk q => q.imp (hS k hk) id)
 · exact Rd.Sl.narrow Nat.one_pos hi (fun k hk q => q.imp (hS k hk) id)
abbrev dkCells (dg : Nat) (tv : Value) (A : Option Addr) (c : Nat) (s : Sch) : Array Value := #[BX dg, tv, .slice A s.types.length c, .int .i64 s.keys, .int .i64 s.mode, .int .i64 s.grain]
def tells (rows : List Row) (sss : List (List ByteArray)) : List ByteArray := ⟨(Lib.decDigits rows.length).toArray⟩ :: sss.map (fun ss => BA (joinL ss ⟨#[32]⟩))
theorem getC (F : Nat → Prop) (db dg mg tg : Nat) (pv : Value) (S : StM) (hs : S.s.Ok) (w : World) (h : StoreAt F w tg dg mg pv S) (Ad : Option Addr) (cd : Nat) (hb : w.heap[db]? = some (.cells (dkCells dg (PX tg) Ad cd S.s) 118 (0, 0))) (hA : SchAt F w Ad cd S.s)
   (hn : S.parts.length ≤ 1000) (hN : S.parts.flatten.length ≤ 100000) (ho : ∀ x ∈ S.parts, Srt (cmpS S.s) x ∧ ∀ r ∈ x, RowOk S.s r) (Aw : Option Addr) (cw : Nat) (hw : rdStr.Sl F w Aw cw [finalB])
   (rows : List Row) (hrows : rows = told S.s true S.parts) (hr1 : rows.length < 100) (sss : List (List ByteArray)) (hsl : sss.length = rows.length) (hsay : ∀ k (h1 : k < rows.length) (h2 : k < sss.length), SaysR w S.s.types rows[k] sss[k] ∧ (joinL sss[k] ⟨#[32]⟩).length ≤ 1000000000) (hjl : (joinL (tells rows sss) ⟨#[10]⟩).length ≤ 1000000000)
   (hF : ∀ k, F k → k < w.heap.size) :
   Calls Tryz.prog 109 #[.pointer (some ⟨db, 0, none⟩), .slice Aw 1 cw] w fun e w' => e = .returned (.string (BA (joinL (tells rows sss) ⟨#[10]⟩))) ∧ Ext w w' := by
 have hE1 := (Ext.refl w).alloc (.cells #[.slice Aw 1 cw, .bool false] 271)
 have hB1 := bN w (.cells #[.slice Aw 1 cw, .bool false] 271)
 have hw1 : WordsAt F (w.alloc (.cells #[.slice Aw 1 cw, .bool false] 271)) w.heap.size [finalB] := ⟨Aw, cw, hB1, fun q => absurd (hF _ q) (Nat.lt_irrefl _), Rd.Sl.ext (hw.narrow (by decide) (fun j hj q => q.elim id (fun q => by omega))) hE1⟩
 have hdl := blk_lt hb
 have HQ := As.mk (queryFC F w.heap.size _ hw1 (.slice Ad S.s.types.length cd) S.s.keys S.s.mode S.s.grain)
 (have p0 := bC (hb) 0; have p1 := bC (hb) 1; have p2 := bC (hb) 2; have p3 := bC (hb) 3; have p4 := bC (hb) 4; have p5 := bC (hb) 5)
 clear hw1 hB1
 go_enter Tryz.func109, Tryz.ntmps109
 go_wp2_with (fail)
 refine HQ.out.mono ?_; rintro e w2 ⟨rfl, hw2, k2⟩
 have hE2 := Ext.keepNew hE1 k2 (fun j q => by omega)
 obtain ⟨A2, c2, hbw, -⟩ := id hw2
 have B3 := bN w2 (.cells (qCells true) 75)
 have hE3 := hE2.alloc (.cells (qCells true) 75)
 have hbw3 := ((Ext.refl w2).alloc (.cells (qCells true) 75)).blk hbw
 clear p0 p1 p2 p3 p4 p5 hbw HQ hw2 k2
 (have q0 := bC (hbw3) 0; have qf0 := bF (hbw3) 0; have q1 := bC (hbw3) 1; have qf1 := bF (hbw3) 1)
 go_upto_region 5 with (fail)
 generalize w2.alloc (.cells (qCells true) 75) = w3 at *
 obtain ⟨y, hy⟩ : ∃ y, w2.heap.size = y := ⟨_, rfl⟩
 rw [hy] at B3 ⊢
 have hyl : w.heap.size ≤ y := by rw [← hy]; exact hE2.size
 clear hy
 have hdb3 := hE3.blk hb
 have hrun := fun W (hW : Ext w3 W) => queryC F tg dg mg pv S hs true W ((h.ext hE3).ext hW) hn hN ho (FExt hF (hE3.trans hW))
 have HRUN := As.mk hrun
 have hw3a := (Ext.refl w3).alloc (.cells #[.slice none 0 0, .slice none 0 0, .int .i64 0] 67)
 have hrun2 := fun W (hW : Ext (w3.alloc (.cells #[.slice none 0 0, .slice none 0 0, .int .i64 0] 67)) W) => queryC (fun k => F k ∨ k = w3.heap.size) tg dg mg pv S hs true W (((store_narrow (G := fun k => F k ∨ k = w3.heap.size) (h.ext hE3) (fun k hk q => q.elim id (fun q => by omega))).ext hw3a).ext hW) hn hN ho (fun k q => q.elim (FExt hF ((hE3.trans hw3a).trans hW) k) (fun q => by have h1 := hW.size; rw [World.size_alloc] at h1; omega))
 have HRUN2 := As.mk hrun2
 clear hrun hrun2 hw3a q0 qf0 q1 qf1
 (have p0 := bC (hdb3) 0; have p1 := bC (hdb3) 1; have p2 := bC (hdb3) 2; have p3 := bC (hdb3) 3; have p4 := bC (hdb3) 4; have p5 := bC (hdb3) 5)
 (have q0 := bC (B3) 0; have q1 := bC (B3) 1; have q2 := bC (B3) 2; have q3 := bC (B3) 3; have q4 := bC (B3) 4; have q5 := bC (B3) 5; have q6 := bC (B3) 6)
 have hEa := (Ext.refl w3).alloc (.cells #[.slice none 0 0, .slice none 0 0, .int .i64 0] 67)
 have hdba := hEa.blk hdb3
 have B3a := hEa.blk B3
 (have pa0 := bC (hdba) 0; have pa1 := bC (hdba) 1; have pa2 := bC (hdba) 2; have pa3 := bC (hdba) 3; have pa4 := bC (hdba) 4; have pa5 := bC (hdba) 5)
 (have qa0 := bC (B3a) 0; have qa1 := bC (B3a) 1; have qa2 := bC (B3a) 2; have qa3 := bC (B3a) 3; have qa4 := bC (B3a) 4; have qa5 := bC (B3a) 5; have qa6 := bC (B3a) 6)
 go_cut [7, 8] (fun r e wx => ∃ zb A4 c4 n4, r = PX zb ∧ e = .int .i64 0 ∧ wx.heap[zb]? = some (.cells #[.slice A4 rows.length c4, .slice none 0 0, .int .i64 n4] 67 (0, 0)) ∧ rdRow.Sl F wx A4 c4 rows ∧ Ext w3 wx)
 case first =>
   go_region_law (first | (go_simp; go_at_call 21; with_reducible refine Calls.mono (HRUN2.out _ ?_) ?_; (first | exact Ext.refl _ | exact (Ext.refl _).drew); rintro e w4 ⟨A4, c4, n4, rfl, hs4, hE4⟩; have hx4 := Ext.trans (a := w3) XE hE4; have B4 := hE4.blk (bN w3 (.cells #[.slice none 0 0, .slice none 0 0, .int .i64 0] 67)); (have z0 := bC (B4) 0; have zf0 := bF (B4) 0; have z1 := bC (B4) 1; have zf1 := bF (B4) 1; have z2 := bC (B4) 2; have zf2 := bF (B4) 2); dsimp only) | (go_simp; go_at_call 21; with_reducible refine Calls.mono (HRUN.out _ ?_) ?_; exact XE; rintro e w4 ⟨A4, c4, n4, rfl, hs4, hE4⟩; have hx4 := Ext.trans (a := w3) XE hE4; have B4 := bN w4 (.cells #[.slice none 0 0, .slice none 0 0, .int .i64 0] 67); (have z0 := bC (B4) 0; have zf0 := bF (B4) 0; have z1 := bC (B4) 1; have zf1 := bF (B4) 1; have z2 := bC (B4) 2; have zf2 := bF (B4) 2); dsimp only))
   all_goals
     (try simp only [Exit.inBlock, Exit.then])
     go_wp2_with (fail)
     go_meet
     first
       | exact ⟨w4.heap.size, A4, c4, n4, rfl, rfl, by rw [hrows]; exact bN _ _, by rw [hrows]; exact hs4.ext ((Ext.refl _).alloc _), hx4.alloc _⟩
       | (have s0 := bS B4 0 (.slice A4 (told S.s true S.parts).length c4); have s1 := bS s0 1 (.slice none 0 0); have s2 := bS s1 2 (.int .i64 n4); have K3 := ((kS1 w4 w3.heap.size 0 (.slice A4 (told S.s true S.parts).length c4)).trans (kS1 _ w3.heap.size 1 (.slice none 0 0))).trans (kS1 _ w3.heap.size 2 (.int .i64 n4)); refine ⟨w3.heap.size, A4, c4, n4, rfl, rfl, (by rw [hrows]; first | exact s2 | exact (Ext.refl _).drew.blk s2), (by rw [hrows]; have q := (hs4.keep (K3.mono (fun _ _ q => .inr q))).narrow (by decide) (fun j _ q => .inl q); first | exact q | exact Rd.Sl.ext q (Ext.refl _).drew), (by have q := hx4.keepNew K3 (fun j q => Nat.le_of_eq q.symm); first | exact q | exact q.drew)⟩)
 case rest =>
   obtain ⟨zb, A4, c4, n4, rfl, rfl, hz, hs4, hE4⟩ := hcut
   generalize wc = w5 at *
   have hE05 := hE3.trans hE4
   have hdb5 := hE4.blk hdb3
   have B5 := hE4.blk B3
   have hA5 := Rd.Sl.ext hA hE05
   have hF5 := FExt hF hE05
   have HDB := As.mk hdb5
   have HSAY := As.mk hsay
   have HSL := As.mk hsl
   have HJL := As.mk hjl
   have HROWS := As.mk hrows
   clear p0 p1 p2 p3 p4 p5 q0 q1 q2 q3 q4 q5 q6 pa0 pa1 pa2 pa3 pa4 pa5 qa0 qa1 qa2 qa3 qa4 qa5 qa6 hsay hsl hjl hrows hb hdb3 hdba B3 B3a hEa h hw
   (have q0 := bC (B5) 0; have q1 := bC (B5) 1; have q2 := bC (B5) 2; have q3 := bC (B5) 3; have q4 := bC (B5) 4; have q5 := bC (B5) 5; have q6 := bC (B5) 6)
   (have z0 := bC (hz) 0; have z1 := bC (hz) 1; have z2 := bC (hz) 2)
   have hnil := Rd.Own.nil rdStr F w5.heap.size 9 w5
   have hszw := hE05.size
   go_wp2_with (first | (go_at_call 126; refine (Tryz.strconv_Itoa_small rows.length hr1 _).mono ?_; rintro e w6 ⟨rfl, rfl⟩) | (at_builtin; refine wpList_push rfl _ _ _ rfl rdStr elStr rfl (hnil.ext ((Ext.refl _).alloc _)) rfl (heap_alloc_new _ _) (y := BA (Lib.decDigits rows.length)) rfl (by decide) (by decide) (by simp) ((Ext.refl w6).alloc _) ?_; intro v7 w7 hown7 hg7 hE7; have hE57 : Ext w6 w7 := hE7; have hz7 := hE57.blk hz; (have zz0 := bC (hz7) 0; have zz1 := bC (hz7) 1; have zz2 := bC (hz7) 2)))
   have h64 := hs.n2
   clear hz hz7 zz0 zz1 zz2 z0 z1 z2 q0 q1 q2 q3 q4 q5 q6 hdb5 B5 hg7 hnil hE7
   go_loopw [9, 76] (fun v i wr => ∃ k : Nat, i = .int .i64 k ∧ k ≤ rows.length ∧ rdStr.Own F w6.heap.size 9 wr v (BA (Lib.decDigits rows.length) :: (sss.take k).map (fun ss => BA (joinL ss ⟨#[32]⟩))) ∧ Ext w6 wr) (fun _ i _ => rows.length - (intOf i).toNat)
   case atStart => exact ⟨0, by go_num, Nat.zero_le _, hown7, hE57⟩
   case round =>
     obtain ⟨k, rfl, hkl, hown, hE⟩ := hrel
     by_cases hlt : k < rows.length
     · obtain ⟨b, o, A2, c2, rfl, hc, hv⟩ := row_get (hs4.ext hE) hlt
       have hk2 : k < sss.length := by rw [HSL.out]; exact hlt
       obtain ⟨hs1, hs2⟩ := HSAY.out k hlt hk2
       obtain ⟨r, hr0⟩ : ∃ r, rows[k] = r := ⟨_, rfl⟩
       obtain ⟨ss, hss0⟩ : ∃ ss, sss[k] = ss := ⟨_, rfl⟩
       rw [hr0, hss0] at hs1
       rw [hss0] at hs2
       rw [hr0] at hc hv
       have hE0r := hE05.trans hE
       have HROW := As.mk (K92.rowC F db (BX dg) (PX tg) (.int .i64 S.s.keys) (.int .i64 S.s.mode) (.int .i64 S.s.grain) Ad cd S.s.types wr (hE.blk HDB.out) (Rd.Sl.ext hA hE0r) A2 c2 r hv ss (hs1.ext hE0r) (by omega) hs2 (FExt hF hE0r))
       have HSS0 := As.mk hss0
       have hfk : As ((BA (Lib.decDigits rows.length) :: (sss.take k).map (fun ss => BA (joinL ss ⟨#[32]⟩))).length = k + 1) := ⟨by rw [List.length_cons, List.length_map, List.length_take]; omega⟩
       obtain ⟨pre, hpre⟩ : ∃ pre, BA (Lib.decDigits rows.length) :: (sss.take k).map (fun ss => BA (joinL ss ⟨#[32]⟩)) = pre := ⟨_, rfl⟩
       rw [hpre] at hown hfk
       have HPRE := As.mk hpre
       clear hr0 hss0 hs1 hs2 hv hpre
       go_wp2_with (fail)
       refine HROW.out.mono ?_; rintro e w8 ⟨rfl, hE8⟩
       have hownc := hown.ext hE8
       have hE08 := hE.trans hE8
       go_wp2_with (first | (at_builtin; refine wpList_push rfl _ _ _ rfl rdStr elStr rfl (hownc.ext ((Ext.refl _).alloc _)) rfl (heap_alloc_new _ _) (y := BA (joinL ss ⟨#[32]⟩)) rfl (by rw [hfk.out]; omega) (by rw [hfk.out]; unfold maxLen; omega) (by have := hE08.size; simp; omega) (hE08.alloc _) ?_; intro v9 w9 hown9 hg9 hE9))
       have hn : pre ++ [BA (joinL ss ⟨#[32]⟩)] = BA (Lib.decDigits rows.length) :: (sss.take (k + 1)).map (fun ss => BA (joinL ss ⟨#[32]⟩)) := by
         rw [← HPRE.out, take_succ_get sss k hk2, HSS0.out, List.map_append]; rfl
       rw [hn] at hown9
       clear hn
       go_roundw
       case rel => exact ⟨k + 1, by go_num, by omega, hown9, hE9⟩
       case measure => simp [intOf] <;> omega
     · obtain rfl : k = rows.length := by omega
       have hfin : sss.take rows.length = sss := List.take_of_length_le (by rw [HSL.out]; exact Nat.le_refl _)
       rw [hfin] at hown
       change rdStr.Own F w6.heap.size 9 wr u9 (tells rows sss) at hown
       have HTL := As.mk (show (tells rows sss).length ≤ 1000000 by show _ + 1 ≤ _; rw [List.length_map, HSL.out]; omega)
       obtain ⟨tl, htl⟩ : ∃ tl, tells rows sss = tl := ⟨_, rfl⟩
       rw [htl] at hown HTL HJL
       have HTE := As.mk htl
       clear htl
       obtain ⟨Az, cz, rfl, hsl⟩ := hown.shut hF5
       have HJ := As.mk (joinC F Az cz tl ⟨#[10]⟩ _ hsl HTL.out HJL.out)
       have hE0r := hE05.trans hE
       clear hfin hown hsl
       go_wp2_with (fail)
       refine HJ.out.mono ?_; rintro e w1 ⟨rfl, hE1⟩
       go_wp2_with (fail)
       go_ret
       exact ⟨by rw [HTE.out]; rfl, hE0r.trans hE1⟩
end K93
end Go.Proofs.YtbjeejimedhniaaGreatDoor
