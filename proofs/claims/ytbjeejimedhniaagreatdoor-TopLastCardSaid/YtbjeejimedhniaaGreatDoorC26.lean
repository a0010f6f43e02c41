/- Contracts of the program's functions, as the walks of the law use them. -/
import Derived.Test.YtbjeejimedhniaaGreatDoorC25
import Derived.Test.YtbjeejimedhniaaGreatDoorC20
import Derived.Test.YtbjeejimedhniaaGreatDoorC23
import Derived.Test.YtbjeejimedhniaaGreatDoorC24
import Derived.Lib.SliceRun
import Derived.Laws.CopyOwn
import Derived.Laws.AppendOwn
namespace Go.Proofs.YtbjeejimedhniaaGreatDoor
namespace K81
open Go Go.RowKit
open KB KB2 KB3 K1 K6 K7 K8 K9 K17 K19 P5 K25 K31 K34 K35 K36 K37 K46 K38 K42 K54 K56 K57 K58 K65 K70 K71 K72 K75 K77 K80
set_option linter.unusedVariables false
set_option linter.unusedSimpArgs false
set_option maxHeartbeats 2000000
set_option maxRecDepth 100000
theorem openSC (F : Nat → Prop) (dg mg : Nat) (D : Dsk) (w : World) (h : DiskAt F w dg mg D) (s : Sch) (hs : s.Ok) (A : Option Addr) (c : Nat) (hA : SchAt (DF F dg mg) w A c s) (n : Nat) (hn : n ≤ 40)
    (hload : ∀ W, Ext w W → Calls Tryz.prog 36 #[BX dg, schV A c s] W fun e w' => ∃ As cs Ai ci, e = .returned (.tuple #[stV As cs s Ai ci (idsTo n) n, .int .i64 0]) ∧ SchAt (DF F dg mg) w' As cs s ∧ (rdInt .i64).Sl (DF F dg mg) w' Ai ci (idsTo n) ∧ Ext W w')
    (parts : List (List Row)) (hpl : parts.length = n) (hparts : ∀ k (hk : k < parts.length), ∃ i fs, getA (nameS k) D.M = some i ∧ D.files[i]? = some (partB s parts[k], fs) ∧ PartOk s parts[k])
    (hl : D.lim + 12 ≤ 100000) (hM : D.M.length < 200) (hno : getA newS D.M = none) (hem : getA emp D.M = none) (b : List Int) (hbb : b = recHead s (idsTo n) n) (hu : used D.fs + b.length ≤ D.quota) (hb7 : b.length ≤ 10000000)
    (hst : ∀ nm ∈ (saved D b 6).M.map (·.1), nm ∈ stays (idsTo n)) (hF : ∀ k, F k → k < w.heap.size) :
    Calls Tryz.prog 16 #[BX dg, schV A c s] w fun e w' => ∃ tg pv, e = .returned (.tuple #[PX tg, .int .i64 0]) ∧ w.heap.size ≤ tg ∧ (∀ k, pv.ownBlock = some k → w.heap.size ≤ k) ∧ StoreAt F w' tg dg mg pv ⟨s, idsTo n, n, parts, saved D b 6⟩ ∧ Keep (Two' dg mg) w w' := by
  obtain ⟨x, hx⟩ : ∃ x, w.heap.size = x := ⟨_, rfl⟩
  have hxl : w.heap.size ≤ x := Nat.le_of_eq hx
  have hDF := DFlt h hF
  have hn2 := hs.n2
  have hE1 := (Ext.refl w).alloc (.cells #[.slice A s.types.length c, .int .i64 s.keys, .int .i64 s.mode, .int .i64 s.grain] 27)
  have B1 := blk_new w (.cells #[.slice A s.types.length c, .int .i64 s.keys, .int .i64 s.mode, .int .i64 s.grain] 27)
  rw [hx] at B1
  have HL := As.mk hload
  have HP := As.mk hparts
  have HB := As.mk hbb
  have HS := As.mk hst
  have HU := As.mk hu
  have HPL := As.mk hpl
  have hil := As.mk (idsTo_len n)
  clear hload hparts hbb hst hu hpl
  go_enter Tryz.func16, Tryz.ntmps16
  (have p0 := blk_cell (B1) 0; have p1 := blk_cell (B1) 1; have p2 := blk_cell (B1) 2; have p3 := blk_cell (B1) 3)
  go_wp2_with (fail)
  generalize w.alloc (.cells #[.slice A s.types.length c, .int .i64 s.keys, .int .i64 s.mode, .int .i64 s.grain] 27) = w1 at *
  refine (checkC _ A c s w1 (Rd.Sl.ext hA hE1) hs).mono ?_; rintro e w2 ⟨rfl, hE2⟩
  clear p0 p1 p2 p3
  have hE12 := hE1.trans hE2
  replace B1 := hE2.blk B1
  (have p0 := blk_cell (B1) 0; have p1 := blk_cell (B1) 1; have p2 := blk_cell (B1) 2; have p3 := blk_cell (B1) 3)
  go_wp2_with (fail)
  refine (HL.out w2 hE12).mono ?_; rintro e w3 ⟨As, cs, Ai, ci, rfl, hsA, hsi, hE3⟩
  clear p0 p1 p2 p3
  have hE13 := hE12.trans hE3
  replace B1 := hE3.blk B1
  have B2 := blk_new w3 (.cells #[.slice As s.types.length cs, .int .i64 s.keys, .int .i64 s.mode, .int .i64 s.grain, .slice Ai (idsTo n).length ci, .int .i64 n] 82)
  have hE4 := (Ext.refl w3).alloc (.cells #[.slice As s.types.length cs, .int .i64 s.keys, .int .i64 s.mode, .int .i64 s.grain, .slice Ai (idsTo n).length ci, .int .i64 n] 82)
  obtain ⟨y, hy⟩ : ∃ y, w3.heap.size = y := ⟨_, rfl⟩
  rw [hy] at B2
  have hxy : x < y := by have := blk_lt B1; omega
  have B3 := blk_new (w3.alloc (.cells #[.slice As s.types.length cs, .int .i64 s.keys, .int .i64 s.mode, .int .i64 s.grain, .slice Ai (idsTo n).length ci, .int .i64 n] 82)) (.cells #[BX dg, .slice As s.types.length cs, .int .i64 s.keys, .int .i64 s.mode, .int .i64 s.grain, .slice Ai (idsTo n).length ci, .int .i64 n, .slice none 0 0, .bool false] 85)
  have hE5 := hE4.alloc (.cells #[BX dg, .slice As s.types.length cs, .int .i64 s.keys, .int .i64 s.mode, .int .i64 s.grain, .slice Ai (idsTo n).length ci, .int .i64 n, .slice none 0 0, .bool false] 85)
  simp only [World.size_alloc, hy] at B3
  (have q0 := blk_cell (B2) 0; have q1 := blk_cell (B2) 1; have q2 := blk_cell (B2) 2; have q3 := blk_cell (B2) 3; have q4 := blk_cell (B2) 4; have q5 := blk_cell (B2) 5)
  (have p0 := blk_cell (hE5.blk B1) 0; have p1 := blk_cell (hE5.blk B1) 1; have p2 := blk_cell (hE5.blk B1) 2; have p3 := blk_cell (hE5.blk B1) 3)
  rw [← hy] at q0 q1 q2 q3 q4 q5
  go_wp2_with (fail)
  have hs5 : ((w3.alloc (.cells #[.slice As s.types.length cs, .int .i64 s.keys, .int .i64 s.mode, .int .i64 s.grain, .slice Ai (idsTo n).length ci, .int .i64 n] 82)).alloc (.cells #[BX dg, .slice As s.types.length cs, .int .i64 s.keys, .int .i64 s.mode, .int .i64 s.grain, .slice Ai (idsTo n).length ci, .int .i64 n, .slice none 0 0, .bool false] 85)).heap.size = y + 1 + 1 := by simp [hy]
  replace B2 := blk_old (o' := .cells #[BX dg, .slice As s.types.length cs, .int .i64 s.keys, .int .i64 s.mode, .int .i64 s.grain, .slice Ai (idsTo n).length ci, .int .i64 n, .slice none 0 0, .bool false] 85) B2
  generalize ((w3.alloc (.cells #[.slice As s.types.length cs, .int .i64 s.keys, .int .i64 s.mode, .int .i64 s.grain, .slice Ai (idsTo n).length ci, .int .i64 n] 82)).alloc (.cells #[BX dg, .slice As s.types.length cs, .int .i64 s.keys, .int .i64 s.mode, .int .i64 s.grain, .slice Ai (idsTo n).length ci, .int .i64 n, .slice none 0 0, .bool false] 85)) = w5 at *
  replace B1 := hE5.blk B1
  clear p0 p1 p2 p3 q0 q1 q2 q3 q4 q5 hE4
  obtain ⟨tg, htg⟩ : ∃ tg, y + 1 = tg := ⟨_, rfl⟩
  rw [htg] at B3 hs5 ⊢
  have hE15 := hE13.trans hE5
  have hw3 := hE13.size
  have hlt := h.lt
  have hFt : ∀ k, F k → ¬ k = tg := fun k q e => by have := hF k q; omega
  have hN0 : ∀ k, k < w.heap.size → Fv (SF F tg dg mg) (.slice none 0 0) k → DF F dg mg k := fun k hk q => by
    rcases q with ((q | q) | q) | q
    · exact .inl q
    · omega
    · exact .inr q
    · cases q
  have hG5 : ∀ k, Fv (SF F tg dg mg) (.slice none 0 0) k → k < w5.heap.size := fun k q => by
    rcases q with ((q | q) | (q | q)) | q
    · have := hF k q; omega
    · omega
    · omega
    · omega
    · cases q
  refine (cloneI (Fv (SF F tg dg mg) (.slice none 0 0)) A c s.types w5 ((Rd.Sl.narrow (by decide) hA hN0).ext hE15) (by omega) hG5).mono ?_; rintro e w6 ⟨A6, c6, rfl, hs6, hE6⟩
  have hE16 := hE15.trans hE6
  replace B1 := hE6.blk B1
  replace B2 := hE6.blk B2
  replace B3 := hE6.blk B3
  have nyt : ¬ y = tg := by omega
  (have q0 := blk_cell (B2) 0; have q1 := blk_cell (B2) 1; have q2 := blk_cell (B2) 2; have q3 := blk_cell (B2) 3; have q4 := blk_cell (B2) 4; have q5 := blk_cell (B2) 5)
  (have z0 := blk_cell (B3) 0; have zf0 := blk_froz (B3) 0; have z1 := blk_cell (B3) 1; have zf1 := blk_froz (B3) 1; have z2 := blk_cell (B3) 2; have zf2 := blk_froz (B3) 2; have z3 := blk_cell (B3) 3; have zf3 := blk_froz (B3) 3; have z4 := blk_cell (B3) 4; have zf4 := blk_froz (B3) 4; have z5 := blk_cell (B3) 5; have zf5 := blk_froz (B3) 5; have z6 := blk_cell (B3) 6; have zf6 := blk_froz (B3) 6; have z7 := blk_cell (B3) 7; have zf7 := blk_froz (B3) 7; have z8 := blk_cell (B3) 8; have zf8 := blk_froz (B3) 8)
  go_wp2_with (fail)
  have B4 := blk_set B3 1 (.slice A6 s.types.length c6)
  have k4 := keep_set1 w6 tg 1 (.slice A6 s.types.length c6)
  have hpl := HPL.out
  have hN3 : ∀ k, k < w3.heap.size → Fv (SF F tg dg mg) (.slice none 0 0) k → DF F dg mg k := fun k hk q => by
    rcases q with ((q | q) | q) | q
    · exact .inl q
    · omega
    · exact .inr q
    · cases q
  have kS : Keep (Fv (SF F tg dg mg) (.slice none 0 0)) w6 (w6.setCell ⟨tg, 1, none⟩ (.slice A6 s.types.length c6)) := k4.mono (fun k _ q => .inl (.inl (.inr q)))
  have hI0 := (hsi.narrow (by decide) hN3).ext (hE5.trans hE6)
  have hST : StoreAt F (w6.setCell ⟨tg, 1, none⟩ (.slice A6 s.types.length c6)) tg dg mg (.slice none 0 0) ⟨s, idsTo n, n, parts.take 0, D⟩ := by
    refine ⟨fun q => hFt tg q rfl, by omega, by omega, ?_, Rd.Own.nil _ _ _ _ _, (fun k hk => by cases hk), A6, c6, Ai, ci, B4, ?_, ?_⟩
    · refine ((disk_narrow (G := Fv (fun k => F k ∨ k = tg) (.slice none 0 0)) h (fun k hk q => ?_)).ext hE16).keep (k4.mono (fun k _ q => .inl (.inr q)))
      rcases q with (q | q) | q
      · exact q
      · omega
      · cases q
    · exact Rd.Sl.keep hs6 kS
    · exact hI0.keep kS
  replace hI0 := hI0.keep kS
  have hE17 : Ext w (w6.setCell ⟨tg, 1, none⟩ (.slice A6 s.types.length c6)) := hE16.keepNew k4 (fun k q => by omega)
  replace B1 := k4.blk (by omega : ¬ x = tg) B1
  have hnt : w.heap.size ≤ tg := by omega
  have htl : tg < (w6.setCell ⟨tg, 1, none⟩ (.slice A6 s.types.length c6)).heap.size := blk_lt B4
  clear z0 z1 z2 z3 z4 z5 z6 z7 z8 zf0 zf1 zf2 zf3 zf4 zf5 zf6 zf7 zf8 q0 q1 q2 q3 q4 q5 B2 B3 B4 hs6 hsi hsA kS k4 hE15 hE16 hE6 hE5 hE3 hE2 hE1 hE12 hE13 hG5 hN3
  generalize w6.setCell ⟨tg, 1, none⟩ (.slice A6 s.types.length c6) = w7 at *
  clear hpl
  go_loopw [43] (fun i wr => ∃ (k : Nat) (pv : Value), i = .int .i64 k ∧ k ≤ n ∧ StoreAt F wr tg dg mg pv ⟨s, idsTo n, n, parts.take k, D⟩ ∧ Keep (fun k => k = tg) w7 wr ∧ (∀ j, pv.ownBlock = some j → w7.heap.size ≤ j)) (fun i _ => n - (intOf i).toNat)
  case atStart => exact ⟨0, _, by go_num, Nat.zero_le _, hST, Keep.refl _ _, fun j hj => by cases hj⟩
  case round =>
    obtain ⟨k, pv, rfl, hkn, hst, hk, hpv⟩ := hrel
    have C1 := hk.blk (by omega : ¬ x = tg) B1
    by_cases hlt' : k < n
    · have hkp : k < parts.length := by have := HPL.out; omega
      obtain ⟨i, fs, hi1, hi2, ho⟩ := HP.out k hkp
      have hge7 := hE17.size
      have hkI : Keep (Fv (SF F tg dg mg) (.slice none 0 0)) w7 wr := hk.mono (fun j _ q => .inl (.inl (.inr q)))
      obtain ⟨ba, oa, rfl, hca⟩ := int_get (hI0.keep hkI) (k := k) (by rw [hil.out]; exact hlt')
      have hgk : (idsTo n)[k]'(by rw [hil.out]; exact hlt') = (k : Int) := by simp [idsTo]
      rw [hgk] at hca
      have hF' : ∀ j, Fv (fun k => F k ∨ k = tg) pv j → j < wr.heap.size := fun j q => by
        rcases q with (q | q) | q
        · have := hF j q; have := hk.size; omega
        · have := hk.size; omega
        · exact (hst.parts.ge j q).2
      have hAr : SchAt (Fv (fun k => F k ∨ k = tg) pv) wr A c s := by
        refine Rd.Sl.keep (Rd.Sl.ext (Rd.Sl.narrow (by decide) hA (fun j hj q => ?_)) hE17) (hk.mono (fun j _ q => .inl (.inr q)))
        rcases q with (q | q) | q
        · exact .inl q
        · omega
        · have := hpv j q; omega
      have hod := openDC (Fv (fun k => F k ∨ k = tg) pv) dg mg D wr hst.disk A c s hAr k (by omega) i hi1 parts[k] ho fs hi2 hF'
      have HOD := KB.As.mk hod
      clear hod hi1 hi2
      have dk : k < (idsTo n).length := by rw [hil.out]; exact hlt'
      (have p0 := blk_cell (C1) 0; have p1 := blk_cell (C1) 1; have p2 := blk_cell (C1) 2; have p3 := blk_cell (C1) 3)
      go_wp2_with (fail)
      refine HOD.out.mono ?_; rintro e w8 ⟨g, rfl, hg, hp, hE8⟩
      clear p0 p1 p2 p3
      have h8 := hst.ext hE8
      obtain ⟨Ap, cp, hpve, hpsl⟩ := h8.sl
      have hlk : (parts.take k).length = k := by rw [List.length_take]; omega
      simp only [hlk] at hpve
      have hown := h8.parts
      obtain ⟨At, ct, Ait, cit, hbt, _, _⟩ := h8.at_
      have hEa := (Ext.refl w8).alloc (.cells #[PX g] 88)
      have hpg : PartAt (Fv (SF F tg dg mg) pv) w8 g s parts[k] := part_narrow hp (fun j _ q => by
        rcases q with ((q | q) | q) | q
        · exact .inl (.inl (.inl q))
        · exact .inl (.inl (.inr q))
        · exact .inr q
        · exact .inl (.inr q))
      have htl8 : tg < (w8.alloc (.cells #[PX g] 88)).heap.size := blk_lt (hEa.blk hbt)
      have hpt : ¬ pv.ownBlock = some tg := fun e => hst.far tg e (.inl (.inr rfl))
      subst hpve
      (have z0 := blk_cell (hbt) 0; have z1 := blk_cell (hbt) 1; have z2 := blk_cell (hbt) 2; have z3 := blk_cell (hbt) 3; have z4 := blk_cell (hbt) 4; have z5 := blk_cell (hbt) 5; have z6 := blk_cell (hbt) 6; have z7 := blk_cell (hbt) 7; have z8 := blk_cell (hbt) 8)
      (have q0 := blk_cell (hEa.blk hbt) 0; have qf0 := blk_froz (hEa.blk hbt) 0; have q1 := blk_cell (hEa.blk hbt) 1; have qf1 := blk_froz (hEa.blk hbt) 1; have q2 := blk_cell (hEa.blk hbt) 2; have qf2 := blk_froz (hEa.blk hbt) 2; have q3 := blk_cell (hEa.blk hbt) 3; have qf3 := blk_froz (hEa.blk hbt) 3; have q4 := blk_cell (hEa.blk hbt) 4; have qf4 := blk_froz (hEa.blk hbt) 4; have q5 := blk_cell (hEa.blk hbt) 5; have qf5 := blk_froz (hEa.blk hbt) 5; have q6 := blk_cell (hEa.blk hbt) 6; have qf6 := blk_froz (hEa.blk hbt) 6; have q7 := blk_cell (hEa.blk hbt) 7; have qf7 := blk_froz (hEa.blk hbt) 7; have q8 := blk_cell (hEa.blk hbt) 8; have qf8 := blk_froz (hEa.blk hbt) 8)
      have hwp : IntKind.i64.wrap ((k : Int) + 1) = (k : Int) + 1 := by rw [IntKind.wrap_i64]; omega
      have hownA := hown.ext hEa
      have hbA := hEa.blk hbt
      have hpA := hpg.ext hEa
      have HLK := KB.As.mk hlk
      have h8a := h8.ext hEa
      have hF8 : ∀ j, F j → j < (w8.alloc (.cells #[PX g] 88)).heap.size := fun j q => by have := hF j q; have := hk.size; have := hE8.size; have := hEa.size; omega
      clear hlk
      go_wp2_with (first | (at_builtin; refine wpList_pushAt rfl (.tmp 61) (.tmp 63) 83 rfl (rdPart s) elPart rfl hownA rfl (heap_alloc_new w8 _) (y := parts[k]) ⟨g, rfl, hpA⟩ (by show ((parts.take k).length + 1) * 8 ≤ _; rw [HLK.out]; omega) (by unfold maxLen; show (parts.take k).length + 1 ≤ _; rw [HLK.out]; omega) (Nat.zero_le _) ?_; intro v' w9 hown9 hg9 hat9; have hb9 := (hg9.block tg htl8 (fun e => hpt e.symm)).trans hbA; have z7' := blk_cell hb9 7; have zf7' := blk_froz hb9 7; obtain ⟨A9, c9, rfl, hc9, _⟩ := own_len hown9))
      obtain ⟨g5, g6⟩ := store_push h8a hF8 hown9 hg9 hat9
      have hT := take_snoc parts hkp
      have kg : Keep (fun j => (Value.slice Ap k cp).ownBlock = some j) (w8.alloc (.cells #[PX g] 88)) w9 := Keep.of_grown hg9 (fun j hj _ => hj)
      have ks := keep_set1 w9 tg 7 (.slice A9 (parts.take k ++ [parts[k]]).length c9)
      have kT : Keep (fun k => k = tg) w7 (w9.setCell ⟨tg, 7, none⟩ (.slice A9 (parts.take k ++ [parts[k]]).length c9)) :=
        ((hk.post (hE8.trans hEa)).newB kg (fun j q => .inr (hpv j q))).trans ks
      have hnw : ∀ j, (Value.slice A9 (parts.take k ++ [parts[k]]).length c9).ownBlock = some j → w7.heap.size ≤ j := fun j hj => by
        rcases hat9 with q | q
        · exact hpv j (q ▸ hj)
        · rw [q] at hj; cases hj; exact Nat.le_trans hk.size (Nat.le_trans hE8.size hEa.size)
      clear g6 ks kg
      simp only [← hT, List.length_take] at g5 kT hnw
      go_roundw
      case rel =>
        exact ⟨k + 1, _, by go_num, by omega, g5, kT, hnw⟩
      case measure => simp [intOf] <;> omega
    · obtain rfl : k = n := by omega
      have hTn : parts.take k = parts := List.take_of_length_le (by have := HPL.out; omega)
      rw [hTn] at hst
      have dk : ¬ k < (idsTo k).length := by rw [hil.out]; exact hlt'
      go_wp2_with (fail)
      have hLit := blk_new wr (.cells #[.func (.func 39) #[] #[], .func (.func 40) #[] #[]] 110)
      have hEl := (Ext.refl wr).alloc (.cells #[.func (.func 39) #[] #[], .func (.func 40) #[] #[]] 110)
      have hF' : ∀ j, Fv (fun k => F k ∨ k = tg) pv j → j < wr.heap.size := fun j q => by
        rcases q with (q | q) | q
        · have := hF j q; have := hk.size; have := hE17.size; omega
        · have := hk.size; omega
        · exact (hst.parts.ge j q).2
      have hst' := hst.ext hEl
      generalize wr.alloc (.cells #[.func (.func 39) #[] #[], .func (.func 40) #[] #[]] 110) = wl at *
      have hF'l := FExt hF' hEl
      obtain ⟨lt, hlt2⟩ : ∃ lt, wr.heap.size = lt := ⟨_, rfl⟩
      rw [hlt2] at hLit
      obtain ⟨ft, td, tm, hd, hpp, hf, Aq, cq, Aj, cj, hbt, hAq, hIq⟩ := hst'
      have hperm : ∀ j, DF (Fv (fun k => F k ∨ k = tg) pv) dg mg j → Fv (SF F tg dg mg) pv j := fun j q => by
        rcases q with (q | q) | q
        · exact .inl (.inl q)
        · exact .inr q
        · exact .inl (.inr q)
      (have z0 := blk_cell (hbt) 0; have z1 := blk_cell (hbt) 1; have z2 := blk_cell (hbt) 2; have z3 := blk_cell (hbt) 3; have z4 := blk_cell (hbt) 4; have z5 := blk_cell (hbt) 5; have z6 := blk_cell (hbt) 6; have z7 := blk_cell (hbt) 7; have z8 := blk_cell (hbt) 8)
      have l0 := blk_cell hLit 0
      have l1 := blk_cell hLit 1
      refine wp_loop_rounds 3 ?_
      rw [rounds_succ]
      go_wp2_with (fail)
      refine (saveC (Fv (fun k => F k ∨ k = tg) pv) dg mg D wl hd hl hF'l s hs Aq Aj cq cj (idsTo k) k (Rd.Sl.narrow (by decide) hAq (fun j _ q => hperm j q)) (hIq.narrow (by decide) (fun j _ q => hperm j q)) (by rw [hil.out]; omega) (fun m hm => by obtain ⟨j, hj, rfl⟩ := List.mem_map.1 hm; have := List.mem_range.1 hj; omega) (by omega) hM hno hem b HB.out HU.out hb7).mono ?_
      rintro e wm ⟨rfl, hdm, km⟩
      clear z0 z1 z2 z3 z4 z5 z6 z7 z8 l0 l1
      have hnd : ¬ (tg = dg ∨ tg = mg) := by rintro (q | q) <;> omega
      have hbm := km.blk hnd hbt
      have hwr := hst.disk.lt
      have hLm := km.blk (by rintro (q | q) <;> omega) hLit
      have hkS : Keep (Fv (SF F tg dg mg) pv) wl wm := km.mono (fun j _ q => .inl (.inr q))
      have hFm : ∀ j, Fv (fun k => F k ∨ k = tg) pv j → j < wm.heap.size := fun j q => Nat.lt_of_lt_of_le (hF'l j q) km.size
      (have z0 := blk_cell (hbm) 0; have z1 := blk_cell (hbm) 1; have z2 := blk_cell (hbm) 2; have z3 := blk_cell (hbm) 3; have z4 := blk_cell (hbm) 4; have z5 := blk_cell (hbm) 5; have z6 := blk_cell (hbm) 6; have z7 := blk_cell (hbm) 7; have z8 := blk_cell (hbm) 8)
      have l1 := blk_cell hLm 1
      go_wp2_with (fail)
      rw [rounds_succ]
      go_wp2_with (fail)
      refine (sweepC (Fv (fun k => F k ∨ k = tg) pv) dg mg (saved D b 6) wm hdm hFm s Aq Aj cq cj (idsTo k) k (Rd.Sl.narrow (by decide) (hIq.keep hkS) (fun j _ q => hperm j (.inl q))) (by rw [hil.out]; omega) (fun m hm => by obtain ⟨j, hj, rfl⟩ := List.mem_map.1 hm; have := List.mem_range.1 hj; omega) HS.out).mono ?_
      rintro e wn ⟨rfl, hEn⟩
      clear z0 z1 z2 z3 z4 z5 z6 z7 z8 l1
      go_wp2_with (fail)
      rw [rounds_succ]
      go_wp2_with (fail)
      refine bodyPost_ret (v := .tuple #[PX tg, .int .i64 0]) (by simp [results, Tryz.results16, go_sem]) rfl ?_
      have hEr : Ext w wr := hE17.keepNew hk (fun j q => by omega)
      refine ⟨tg, pv, rfl, hnt, fun j hj => by have := hpv j hj; have := hE17.size; omega, ⟨ft, td, tm, hdm.ext hEn, ?_, hf, Aq, cq, Aj, cj, hEn.blk hbm, Rd.Sl.ext (Rd.Sl.keep hAq hkS) hEn, (hIq.keep hkS).ext hEn⟩, (((hEr.trans hEl).keep _).trans km).post hEn⟩
      exact (hpp.keep2 hkS (fun j hj => km.block j (hpp.ge j hj).2 (fun q => hf j hj (.inr q)))).ext hEn
end K81
namespace P9
open KB K1 K17 P5 P6 P8 K35 K38 K54 K56 K57 K58 K87
set_option linter.unusedVariables false
/-- All that a table's disk has is safe. -/
theorem holds_safe {D : Dsk} {s : Sch} {lg : List Int} {ps : List (Int × List Row)} {all : List Int} (h : Holds D s lg ps all) (hall : ∀ n ∈ all, ∃ p ∈ ps, p.1 = n) : ∀ p ∈ D.M, ∃ fb : List Int, D.files[p.2]? = some (fb, (fb.length : Int)) := by
  intro p hp
  have hg := mem_getA h.srt hp
  rcases List.mem_cons.1 (h.only _ (List.mem_map.2 ⟨p, hp, rfl⟩)) with e | e
  · obtain ⟨i, hi, hf⟩ := h.log_
    rw [e, hi] at hg; cases hg
    exact ⟨_, hf⟩
  · obtain ⟨n, hn, e⟩ := List.mem_map.1 e
    obtain ⟨q, hq, rfl⟩ := hall n hn
    obtain ⟨i, hi, hf⟩ := h.part q hq
    rw [← e, hi] at hg; cases hg
    exact ⟨_, hf⟩
theorem cr_get (M : List (ByteArray × Nat)) (hM : SrtA M) (n : ByteArray) (i : Nat) (h : getA n M = some i) : ∃ j, ∃ hj : j < M.length, M[j] = (n, i) ∧ getA n (crM (M.map (·.1))) = some j := by
  have hm := getA_mem h
  obtain ⟨j, hj, e⟩ := List.getElem_of_mem hm
  refine ⟨j, hj, e, ?_⟩
  have hs : SrtA (crM (M.map (·.1))) := by
    have h1 : ((crM (M.map (·.1))).map (·.1)).Pairwise ltN := by rw [crM_map]; exact List.pairwise_map.2 hM
    exact List.pairwise_map.1 h1
  refine mem_getA hs ?_
  have : (crM (M.map (·.1)))[j]? = some (n, j) := by
    simp [crM, List.getElem?_zipIdx, List.getElem?_eq_getElem hj, e]
  exact List.mem_of_getElem? this
theorem has_cr {D : Dsk} (hM : SrtA D.M) {n : ByteArray} {f : FileM} (h : Has D n f) : Has (crD D) n f := by
  obtain ⟨i, hi, hf⟩ := h
  obtain ⟨j, hj, e, hg⟩ := cr_get D.M hM n i hi
  refine ⟨j, hg, ?_⟩
  show (D.M.map fun p => D.files.getD p.2 ([], 0))[j]? = some f
  rw [List.getElem?_map, List.getElem?_eq_getElem hj, e]
  simp [List.getD_eq_getElem?_getD, hf]
theorem crM_mem {l : List ByteArray} {p : ByteArray × Nat} (h : p ∈ crM l) : p.2 < l.length ∧ l[p.2]? = some p.1 := by
  have h2 := List.mem_zipIdx' h
  exact ⟨h2.1, by rw [List.getElem?_eq_getElem h2.1, ← h2.2]⟩
theorem holds_cr {D : Dsk} {s : Sch} {lg : List Int} {ps : List (Int × List Row)} {all : List Int} (h : Holds D s lg ps all) : Holds (crD D) s lg ps all := by
  have hs : SrtA (crD D).M := by
    have h1 : ((crM (D.M.map (·.1))).map (·.1)).Pairwise ltN := by rw [crM_map]; exact List.pairwise_map.2 h.srt
    exact List.pairwise_map.1 h1
  refine ⟨hs, fun p hp => ?_, fun p hp q hq e => ?_, has_cr h.srt h.log_, fun p hp => has_cr h.srt (h.part p hp), fun n hn => h.only n ?_, h.rng, h.sub⟩
  · have := (crM_mem hp).1
    show p.2 < (D.M.map _).length
    rw [List.length_map] at this ⊢; exact this
  · have h1 := (crM_mem hp).2
    have h2 := (crM_mem hq).2
    rw [e, h2] at h1; injection h1 with h1; exact h1.symm
  · have : (crD D).M.map (·.1) = D.M.map (·.1) := crM_map _
    rwa [this] at hn
theorem room_cr {D : Dsk} {k c : Nat} (h : Room D k c) : Room (crD D) k c := by
  refine ⟨h.quota, by show (crM (D.M.map (·.1))).length ≤ k; rw [crM_len, List.length_map]; exact h.names, fun f hf => ?_, by show D.M.length ≤ _; have := h.names; omega⟩
  obtain ⟨p, hp, rfl⟩ := List.mem_map.1 hf
  rw [List.getD_eq_getElem?_getD]
  cases e : D.files[p.2]? with
  | none => exact Nat.zero_le _
  | some f => exact h.files f (List.mem_of_getElem? e)
theorem holds_saved {D : Dsk} {s : Sch} {lg : List Int} {ps : List (Int × List Row)} {all : List Int} (h : Holds D s lg ps all) (b : List Int) : Holds (saved D b 6) s b ps all := by
  have hM : ∀ {p}, p ∈ (saved D b 6).M → p = (logS, D.files.length) ∨ p ∈ D.M := fun hp => mem_putA hp
  have hL : (saved D b 6).files.length = D.files.length + 1 := by simp [saved]
  refine ⟨srt_put _ _ _ h.srt, fun p hp => ?_, fun p hp q hq e => ?_, ⟨D.files.length, ?_, ?_⟩, fun p hp => ?_, fun n hn => ?_, h.rng, h.sub⟩
  · rw [hL]
    rcases hM hp with e | e
    · rw [e]; exact Nat.lt_succ_self _
    · have := h.idx p e; omega
  · rcases hM hp with e1 | e1 <;> rcases hM hq with e2 | e2
    · rw [e1, e2]
    · rw [e1] at e; have := h.idx q e2; simp at e; omega
    · rw [e2] at e; have := h.idx p e1; simp at e; omega
    · exact h.inj p e1 q e2 e
  · show getA logS (putA _ _ _) = _
    rw [getA_put, if_pos rfl]
  · show (D.files ++ [_])[D.files.length]? = _
    simp
  · obtain ⟨i, hi, hf⟩ := h.part p hp
    refine ⟨i, ?_, ?_⟩
    · show getA _ (putA _ _ _) = _
      rw [getA_put, if_neg (nameS_log _).1]; exact hi
    · show (D.files ++ [_])[i]? = _
      rw [List.getElem?_append_left (get_lt h hi)]; exact hf
  · obtain ⟨p, hp, rfl⟩ := List.mem_map.1 hn
    rcases hM hp with e | e
    · rw [e]; exact List.mem_cons_self ..
    · exact h.only _ (List.mem_map.2 ⟨p, e, rfl⟩)
theorem holds0 (D : Dsk) (hD : D.M = []) (hf : D.files = []) (s : Sch) (b : List Int) : Holds (saved D b 6) s b [] [] := by
  have hM : ∀ {p}, p ∈ (saved D b 6).M → p = (logS, D.files.length) := fun hp => by
    rcases mem_putA hp with e | e
    · exact e
    · rw [hD] at e; cases e
  refine ⟨srt_put _ _ _ (by rw [hD]; exact .nil), fun p hp => ?_, fun p hp q hq e => (by rw [hM hp, hM hq]), ⟨D.files.length, ?_, ?_⟩, fun p hp => (by cases hp), fun n hn => ?_, fun n hn => (by cases hn), fun p hp => (by cases hp)⟩
  · rw [hM hp]; simp [saved]
  · show getA logS (putA _ _ _) = _
    rw [getA_put, if_pos rfl]
  · show (D.files ++ [_])[D.files.length]? = _
    simp
  · obtain ⟨p, hp, rfl⟩ := List.mem_map.1 hn
    rw [hM hp]; exact List.mem_cons_self ..
theorem room_saved {D : Dsk} {k c : Nat} (h : Room D k c) (b : List Int) (hb : b.length ≤ c) : Room (saved D b 6) (k + 1) c := by
  refine ⟨h.quota, Nat.le_trans (put_le _ _ _) (Nat.succ_le_succ h.names), fun f hf => ?_, (by show D.lim + 8 ≤ _; have := h.lim; omega)⟩
  rcases List.mem_append.1 hf with q | q
  · exact h.files f q
  · simp at q; rw [q]; exact hb
end P9
namespace K103
open Go Go.RowKit
open KB KB2 P2 K1 K2 K3 K17 P5 P6 P8 P9 K25 K35 K38 K42 K54 K55 K56 K57 K58 K31 K65 K70 K71 K72 K75 K77 K81 K87 K88 K89 K91 K92 K93 K94 K95 K97
set_option linter.unusedVariables false
set_option linter.unusedSimpArgs false
set_option maxHeartbeats 2000000
set_option maxRecDepth 100000
/-- A disk, and no table. -/
def StDisk (y : Nat) (D : Dsk) (O T : Nat → Prop) (W : World) : Prop :=
  ∃ dg mg d2 d3 d4 d5, DiskAt (fun q => O q ∨ q = y) W dg mg D ∧ W.heap[y]? = some (.cells #[BX dg, .pointer none, d2, d3, d4, d5] 118 (0, 0)) ∧ ¬ O y ∧ T = (fun q => q = y ∨ q = dg ∨ q = mg)
/-- A table. -/
def StTab (y : Nat) (St : StM) (O T : Nat → Prop) (W : World) : Prop :=
  ∃ dg mg tg pv A c, StoreAt (fun q => O q ∨ q = y) W tg dg mg pv St ∧ W.heap[y]? = some (.cells (dkCells dg (PX tg) A c St.s) 118 (0, 0)) ∧ SchAt (fun q => O q ∨ T q) W A c St.s ∧ ¬ O y ∧ T = (fun q => q = y ∨ SB tg dg mg pv q)
theorem stDisk_keep {y : Nat} {D : Dsk} {O T : Nat → Prop} {W W' : World} (h : StDisk y D O T W) (k : Keep O W W') : StDisk y D O T W' := by
  obtain ⟨dg, mg, d2, d3, d4, d5, h1, h2, h3, h4⟩ := h
  exact ⟨dg, mg, d2, d3, d4, d5, h1.keep (k.mono (fun _ _ q => .inl q)), k.blk h3 h2, h3, h4⟩
theorem stDisk_narrow {y : Nat} {D : Dsk} {O O' T : Nat → Prop} {W : World} (h : StDisk y D O T W) (hO : ∀ q, q < W.heap.size → O' q → O q) : StDisk y D O' T W := by
  obtain ⟨dg, mg, d2, d3, d4, d5, h1, h2, h3, h4⟩ := h
  exact ⟨dg, mg, d2, d3, d4, d5, disk_narrow h1 (fun k hk q => q.imp (hO k hk) id), h2, fun q => h3 (hO y (blk_lt h2) q), h4⟩
theorem stDisk_own {y : Nat} {D : Dsk} {O T : Nat → Prop} {W : World} (h : StDisk y D O T W) : ∀ q, T q → q < W.heap.size ∧ ¬ O q := by
  obtain ⟨dg, mg, d2, d3, d4, d5, h1, h2, h3, rfl⟩ := h
  have hl := h1.lt
  rintro q (rfl | rfl | rfl)
  · exact ⟨blk_lt h2, h3⟩
  · exact ⟨hl.1, fun e => h1.fd (.inl e)⟩
  · exact ⟨hl.2, fun e => h1.fm (.inl e)⟩
theorem stTab_keep {y : Nat} {St : StM} {O T : Nat → Prop} {W W' : World} (h : StTab y St O T W) (k : Keep O W W') : StTab y St O T W' := by
  obtain ⟨dg, mg, tg, pv, A, c, h1, h2, h3, h4, h5⟩ := h
  exact ⟨dg, mg, tg, pv, A, c, h1.keep k (fun _ q => .inl q) (fun i hi q => h1.far i hi (.inl (.inl (.inl q)))), k.blk h4 h2, Rd.Sl.keep h3 (k.mono (fun _ _ q => .inl q)), h4, h5⟩
theorem stTab_narrow {y : Nat} {St : StM} {O O' T : Nat → Prop} {W : World} (h : StTab y St O T W) (hO : ∀ q, q < W.heap.size → O' q → O q) : StTab y St O' T W := by
  obtain ⟨dg, mg, tg, pv, A, c, h1, h2, h3, h4, h5⟩ := h
  exact ⟨dg, mg, tg, pv, A, c, store_narrow h1 (fun k hk q => q.imp (hO k hk) id), h2, Rd.Sl.narrow Nat.one_pos h3 (fun k hk q => q.imp (hO k hk) id), fun q => h4 (hO y (blk_lt h2) q), h5⟩
theorem store_tl {F : Nat → Prop} {w : World} {tg dg mg : Nat} {pv : Value} {St : StM} (h : StoreAt F w tg dg mg pv St) : tg < w.heap.size := by
  obtain ⟨A, c, Ai, ci, hb, _⟩ := h.at_
  exact blk_lt hb
theorem stTab_own {y : Nat} {St : StM} {O T : Nat → Prop} {W : World} (h : StTab y St O T W) : ∀ q, T q → q < W.heap.size ∧ ¬ O q := by
  obtain ⟨dg, mg, tg, pv, A, c, h1, h2, h3, h4, rfl⟩ := h
  have hl := h1.disk.lt
  rintro q (rfl | rfl | rfl | rfl | e)
  · exact ⟨blk_lt h2, h4⟩
  · exact ⟨store_tl h1, fun e => h1.ft (.inl e)⟩
  · exact ⟨hl.1, fun e => h1.disk.fd (.inl (.inl (.inl e)))⟩
  · exact ⟨hl.2, fun e => h1.disk.fm (.inl (.inl (.inl e)))⟩
  · exact ⟨(h1.parts.ge q e).2, fun o => h1.far q e (.inl (.inl (.inl o)))⟩
theorem lineOpen (y : Nat) (D : Dsk) (O T : Nat → Prop) (W : World) (h : StDisk y D O T W) (hO : ∀ q, O q → q < W.heap.size) (s : Sch) (hs : s.Ok) (wk wg : ByteArray) (hk : Says W 1 wk s.keys) (hg : Says W 1 wg s.grain) (A : Option Addr) (c : Nat)
    (hl : rdStr.Sl (fun q => O q ∨ T q) W A c (tableB :: modeW s.mode :: wk :: wg :: s.types.map typeW)) (n : Nat) (hn : n ≤ 40)
    (hload : ∀ (F : Nat → Prop) (dg mg : Nat) (A' : Option Addr) (c' : Nat) (W' : World), DiskAt F W' dg mg D → SchAt (DF F dg mg) W' A' c' s → (∀ k, F k → k < W'.heap.size) → Calls Tryz.prog 36 #[BX dg, schV A' c' s] W' fun e w' => ∃ As cs Ai ci, e = .returned (.tuple #[stV As cs s Ai ci (idsTo n) n, .int .i64 0]) ∧ SchAt (DF F dg mg) w' As cs s ∧ (rdInt .i64).Sl (DF F dg mg) w' Ai ci (idsTo n) ∧ Ext W' w')
    (parts : List (List Row)) (hpl : parts.length = n) (hparts : ∀ k (hk : k < parts.length), ∃ i fs, getA (nameS k) D.M = some i ∧ D.files[i]? = some (partB s parts[k], fs) ∧ PartOk s parts[k])
    (hlim : D.lim + 12 ≤ 100000) (hM : D.M.length < 200) (hno : getA newS D.M = none) (hem : getA emp D.M = none) (hu : used D.fs + (recHead s (idsTo n) n).length ≤ D.quota) (hb7 : (recHead s (idsTo n) n).length ≤ 10000000)
    (hst : ∀ nm ∈ (saved D (recHead s (idsTo n) n) 6).M.map (·.1), nm ∈ stays (idsTo n)) :
    Calls Tryz.prog 47 #[BX y, .slice A (s.types.length + 4) c] W fun e W' => e = .returned (.string ⟨#[111, 107]⟩) ∧ ∃ T', StTab y ⟨s, idsTo n, n, parts, saved D (recHead s (idsTo n) n) 6⟩ O T' W' ∧ Keep T W W' ∧ ∀ q, T' q → T q ∨ W.heap.size ≤ q := by
  have hown := stDisk_own h
  obtain ⟨dg, mg, d2, d3, d4, d5, h1, h2, h3, rfl⟩ := h
  have hll : (modeW s.mode :: wk :: wg :: s.types.map typeW).length = s.types.length + 3 := by simp
  have hFl : ∀ q, (O q ∨ q = y) → q < W.heap.size := fun q e => e.elim (hO q) (fun e => by rw [e]; exact blk_lt h2)
  have hGl : ∀ q, (O q ∨ q = y ∨ q = dg ∨ q = mg) → q < W.heap.size := fun q e => e.elim (hO q) (fun e => (hown q e).1)
  have hLC := lineTableC (fun q => O q ∨ q = y ∨ q = dg ∨ q = mg) y (BX dg) d2 d3 d4 d5 (.pointer none) W h2 A c (modeW s.mode :: wk :: wg :: s.types.map typeW) hl (by rw [hll]; have := hs.n2; omega) ⟨#[111, 107]⟩
    (fun W' => ∃ T', StTab y ⟨s, idsTo n, n, parts, saved D (recHead s (idsTo n) n) 6⟩ O T' W' ∧ Keep (fun q => q = y ∨ q = dg ∨ q = mg) W W' ∧ ∀ q, T' q → (q = y ∨ q = dg ∨ q = mg) ∨ W.heap.size ≤ q) ?_
  · rw [hll] at hLC; exact hLC
  intro A2 c2 hl2
  have hydg : ¬ y = dg := fun e => h1.fd (.inr e.symm)
  have hymg : ¬ y = mg := fun e => h1.fm (.inr e.symm)
  have hop := opensC (fun q => O q ∨ q = y ∨ q = dg ∨ q = mg) (fun q => O q ∨ q = y ∨ q = dg ∨ q = mg) (fun _ q => q) y dg (.pointer none) d2 d3 d4 d5 W h2 s hs (by have := hs.g2; omega) A2 c2 wk wg hl2 hk hg hGl (Two' dg mg) (fun k e => e.elim (fun e => by rw [e]; exact h1.lt.1) (fun e => by rw [e]; exact h1.lt.2)) (fun e => e.elim hydg hymg)
    (fun tg A' c' W' => ∃ pv, StoreAt (fun q => O q ∨ q = y) W' tg dg mg pv ⟨s, idsTo n, n, parts, saved D (recHead s (idsTo n) n) 6⟩ ∧ W.heap.size ≤ tg ∧ (∀ k, pv.ownBlock = some k → W.heap.size ≤ k) ∧ SchAt (fun q => O q ∨ (q = y ∨ SB tg dg mg pv q)) W' A' c' s ∧ Keep (Two' dg mg) W W') ?_
  · rw [hll]
    refine hop.mono ?_
    rintro e w' ⟨rfl, tg, A', c', W1, ⟨pv, hst1, htg, hpv, hA1, hK1⟩, hb1, hK2⟩
    have hpy : ∀ i, pv.ownBlock = some i → ¬ i = y := fun i hi e => by have h9 := hpv i hi; rw [e] at h9; have := blk_lt h2; omega
    refine ⟨rfl, _, ⟨dg, mg, tg, pv, A', c', hst1.keep hK2 (fun i e => .inr e) hpy, hb1, Rd.Sl.keep hA1 (hK2.mono (fun i _ e => .inr (.inl e))), h3, rfl⟩, (hK1.mono (fun q _ e => e.elim (fun e => .inr (.inl e)) (fun e => .inr (.inr e)))).trans (hK2.mono (fun q _ e => .inl e)), fun q hq => ?_⟩
    rcases hq with e | e | e | e | e
    · exact .inl (.inl e)
    · exact .inr (e ▸ htg)
    · exact .inl (.inr (.inl e))
    · exact .inl (.inr (.inr e))
    · exact .inr (hpv q e)
  · intro W1 A1 c1 hE1 hA1
    have hd1 := h1.ext hE1
    have hos := openSC (fun q => O q ∨ q = y) dg mg D W1 hd1 s hs A1 c1 (Rd.Sl.narrow Nat.one_pos hA1 (fun k _ e => e.elim (fun e => e.elim .inl (fun e => .inr (.inl e))) (fun e => .inr (.inr e)))) n hn
      (fun W2 hW2 => hload _ dg mg A1 c1 W2 (hd1.ext hW2) (Rd.Sl.ext (Rd.Sl.narrow Nat.one_pos hA1 (fun k _ e => e.elim (fun e => e.elim .inl (fun e => .inr (.inl e))) (fun e => .inr (.inr e)))) hW2) (FExt (FExt hFl hE1) hW2))
      parts hpl hparts hlim hM hno hem _ rfl hu hb7 hst (FExt hFl hE1)
    refine hos.mono ?_
    rintro e w' ⟨tg, pv, rfl, htg, hpv, hst1, hK1⟩
    have hs1 := hE1.size
    refine ⟨tg, rfl, ⟨pv, hst1, Nat.le_trans hs1 htg, fun k e => Nat.le_trans hs1 (hpv k e), ?_, hK1.pre hE1⟩, hK1⟩
    have hA2 := Rd.Sl.narrow (G := fun q => (O q ∨ q = y ∨ q = dg ∨ q = mg) ∨ W1.heap.size ≤ q) Nat.one_pos hA1 (fun k hk e => e.elim id (fun e => by omega))
    refine Rd.Sl.narrow Nat.one_pos (Rd.Sl.keep hA2 (hK1.mono (fun q _ e => .inl (e.elim (fun e => .inr (.inr (.inl e))) (fun e => .inr (.inr (.inr e))))))) (fun q _ e => ?_)
    rcases e with e | e | e | e | e | e
    · exact .inl (.inl e)
    · exact .inl (.inr (.inl e))
    · exact .inr (e ▸ htg)
    · exact .inl (.inr (.inr (.inl e)))
    · exact .inl (.inr (.inr (.inr e)))
    · exact .inr (hpv q e)
end K103
namespace K104
open Go Go.RowKit
open KB KB2 P2 K1 K2 K3 K5 K17 P5 P6 P8 P9 K25 K35 K38 K42 K54 K55 K56 K57 K58 K31 K65 K70 K71 K72 K75 K77 K81 K87 K88 K89 K91 K92 K93 K94 K95 K97 K103
set_option linter.unusedVariables false
set_option linter.unusedSimpArgs false
set_option maxHeartbeats 2000000
set_option maxRecDepth 100000
/-- A table behind a batch. -/
def insSt (St : StM) (l : List Row) (li : Nat) (lg : List Int) : StM :=
  { St with ids := St.ids ++ [(St.next : Int)], next := St.next + 1, parts := St.parts ++ [sortS St.s l], D := wroteD St.D (nameS St.next) (partB St.s (sortS St.s l)) li (lg ++ recAdd St.next) }
theorem lineInsert (y : Nat) (St : StM) (O T : Nat → Prop) (W : World) (h : StTab y St O T W) (hO : ∀ q, O q → q < W.heap.size) (hs : St.s.Ok) (A : Option Addr) (c : Nat) (l : List ByteArray) (hln : l.length ≤ 10000)
    (hl : rdStr.Sl (fun q => O q ∨ T q) W A c (insertB :: l)) (rows : List Row) (sss : List (List ByteArray)) (hlb : l ++ [bar] = barred sss) (hsl : sss.length = rows.length) (hsay : ∀ k (h1 : k < rows.length) (h2 : k < sss.length), SaysR W St.s.types rows[k] sss[k] ∧ ∀ x ∈ sss[k], x ≠ bar)
    (hro : PartOk St.s (sortS St.s rows)) (hlr : ∀ r ∈ rows, RowOk St.s r) (h1 : 1 ≤ rows.length) (h2 : rows.length < 20) (hid : St.next < 100) (hpn : St.parts.length < 40) (hin : St.ids.length < 40) (htot : rows.length + sumL St.parts ≤ 2000) (hnx : ∀ n ∈ St.ids, n < St.next)
    (hlim : St.D.lim + 20 ≤ 100000) (hM : St.D.M.length < 200) (hno : getA (nameS St.next) St.D.M = none) (hem : getA ⟨#[]⟩ St.D.M = none)
    (li : Nat) (hli : getA logS St.D.M = some li) (lg : List Int) (ls : Int) (hlf : St.D.files[li]? = some (lg, ls)) (hu : used St.D.fs + (partB St.s (sortS St.s rows)).length + (recAdd St.next).length ≤ St.D.quota) (hls : lg.length + (recAdd St.next).length ≤ 10000000) :
    Calls Tryz.prog 47 #[BX y, .slice A (l.length + 1) c] W fun e W' => e = .returned (.string ⟨#[111, 107]⟩) ∧ ∃ T', StTab y (insSt St rows li lg) O T' W' ∧ Keep T W W' ∧ ∀ q, T' q → T q ∨ W.heap.size ≤ q := by
  have hown := stTab_own h
  obtain ⟨dg, mg, tg, pv, Ad, cd, g1, g2, g3, g4, rfl⟩ := h
  have hGl : ∀ q, (O q ∨ (q = y ∨ SB tg dg mg pv q)) → q < W.heap.size := fun q e => e.elim (hO q) (fun e => (hown q e).1)
  have hFl : ∀ q, (O q ∨ q = y) → q < W.heap.size := fun q e => hGl q (e.elim .inl (fun e => .inr (.inl e)))
  have hG2 : ∀ q, Fv (SF (fun q => O q ∨ q = y) tg dg mg) pv q ↔ (O q ∨ (q = y ∨ SB tg dg mg pv q)) := fun q => by
    constructor
    · rintro ((((e | e) | e) | e | e) | e)
      · exact .inl e
      · exact .inr (.inl e)
      · exact .inr (.inr (.inl e))
      · exact .inr (.inr (.inr (.inl e)))
      · exact .inr (.inr (.inr (.inr (.inl e))))
      · exact .inr (.inr (.inr (.inr (.inr e))))
    · rintro (e | e | e | e | e | e)
      · exact .inl (.inl (.inl (.inl e)))
      · exact .inl (.inl (.inl (.inr e)))
      · exact .inl (.inl (.inr e))
      · exact .inl (.inr (.inl e))
      · exact .inl (.inr (.inr e))
      · exact .inr e
  refine lineInsertC (fun q => O q ∨ (q = y ∨ SB tg dg mg pv q)) y (BX dg) _ _ _ _ tg W g2 A c l hl (by omega) ⟨#[111, 107]⟩ _ ?_
  intro A2 c2 hl2
  refine insertDC (fun q => O q ∨ (q = y ∨ SB tg dg mg pv q)) (Fv (SF (fun q => O q ∨ q = y) tg dg mg) pv) (fun q e => (hG2 q).2 e) y dg tg St.s W Ad cd g2 g3 hs.n2 A2 c2 l hl2 hln rows sss hlb hsl hsay (fun q e => hGl q ((hG2 q).1 e)) _ ?_
  intro W1 A1 c1 hE1 hr1
  have hi := insertC (fun q => O q ∨ q = y) tg dg mg pv St hs rows hro hlr h1 h2 W1 (g1.ext hE1) hid hpn hin htot hnx hlim hM hno hem li hli lg ls hlf hu hls A1 c1 hr1 (FExt hFl hE1)
  refine hi.mono ?_
  rintro e w' ⟨rfl, pv', hs1, hpv, hK1⟩
  have hs1s := hE1.size
  have hy : ¬ SB tg dg mg pv y := by
    rintro (e | e | e | e)
    · exact g1.ft (.inr e.symm)
    · exact g1.disk.fd (.inl (.inl (.inr e.symm)))
    · exact g1.disk.fm (.inl (.inl (.inr e.symm)))
    · exact g1.far y e (.inl (.inl (.inr rfl)))
  refine ⟨rfl, _, ⟨dg, mg, tg, pv', Ad, cd, hs1, hK1.blk hy (hE1.blk g2), ?_, g4, rfl⟩, (hK1.pre hE1).mono (fun q _ e => .inr e), fun q hq => ?_⟩
  · have hA2 := Rd.Sl.ext (Rd.Sl.narrow (G := fun q => (O q ∨ (q = y ∨ SB tg dg mg pv q)) ∨ W.heap.size ≤ q) Nat.one_pos g3 (fun k hk e => e.elim id (fun e => by omega))) hE1
    refine Rd.Sl.narrow Nat.one_pos (Rd.Sl.keep hA2 (hK1.mono (fun q _ e => .inl (.inr (.inr e))))) (fun q _ e => ?_)
    rcases e with e | e | e | e | e | e
    · exact .inl (.inl e)
    · exact .inl (.inr (.inl e))
    · exact .inl (.inr (.inr (.inl e)))
    · exact .inl (.inr (.inr (.inr (.inl e))))
    · exact .inl (.inr (.inr (.inr (.inr (.inl e)))))
    · rcases hpv q e with h9 | h9
      · exact .inl (.inr (.inr (.inr (.inr (.inr h9)))))
      · exact .inr (Nat.le_trans hs1s h9)
  · rcases hq with e | e | e | e | e
    · exact .inl (.inl e)
    · exact .inl (.inr (.inl e))
    · exact .inl (.inr (.inr (.inl e)))
    · exact .inl (.inr (.inr (.inr (.inl e))))
    · rcases hpv q e with h9 | h9
      · exact .inl (.inr (.inr (.inr (.inr h9))))
      · exact .inr (Nat.le_trans hs1s h9)
theorem lineCrash (y : Nat) (St : StM) (O T : Nat → Prop) (W : World) (h : StTab y St O T W) (hO : ∀ q, O q → q < W.heap.size) (A : Option Addr) (c : Nat) (l : List ByteArray) (hln : l.length ≤ 1000)
    (hl : rdStr.Sl (fun q => O q ∨ T q) W A c (crashB :: l)) (ch : Nat) (hch : ch ≤ 999999) (ts : List Int) (htv : ∀ t ∈ ts, 0 ≤ t ∧ t ≤ 999999) (hsy : SaysL W l ((ch : Int) :: ts)) (hcl : St.D.clean = true) (hsafe : ∀ p ∈ St.D.M, ∃ fb : List Int, St.D.files[p.2]? = some (fb, (fb.length : Int))) :
    Calls Tryz.prog 47 #[BX y, .slice A (l.length + 1) c] W fun e W' => e = .returned (.string ⟨#[111, 107]⟩) ∧ ∃ T', StDisk y (crD St.D) O T' W' ∧ Keep T W W' ∧ ∀ q, T' q → T q ∨ W.heap.size ≤ q := by
  have hown := stTab_own h
  obtain ⟨dg, mg, tg, pv, Ad, cd, g1, g2, g3, g4, rfl⟩ := h
  have hGl : ∀ q, (O q ∨ (q = y ∨ SB tg dg mg pv q)) → q < W.heap.size := fun q e => e.elim (hO q) (fun e => (hown q e).1)
  have hFl : ∀ q, (O q ∨ q = y) → q < W.heap.size := fun q e => hGl q (e.elim .inl (fun e => .inr (.inl e)))
  have htl : ts.length ≤ 1000 := by have := hsy.1; simp at this; omega
  refine lineCrashC (fun q => O q ∨ (q = y ∨ SB tg dg mg pv q)) y (BX dg) (PX tg) _ _ _ _ W g2 A c l hl hln ((ch : Int) :: ts) hsy (by simp) hGl ⟨#[111, 107]⟩ _ ?_
  intro W1 A1 c1 hE1 hr1
  have hd := disk_narrow (G := fun q => O q ∨ q = y) g1.disk (fun k _ e => .inl (.inl e))
  have hc := crashDC (fun q => O q ∨ q = y) y dg mg (.inr rfl) St.D (PX tg) _ _ _ _ W1 (hd.ext hE1) hcl hsafe (hE1.blk g2) A1 c1 ch hch ts htv htl (hr1.narrow (by decide) (fun k _ e => e.elim .inl (fun e => .inr (.inl e)))) (FExt hFl hE1)
  refine hc.mono ?_
  rintro e w' ⟨rfl, dg', mg', k1, k2, hd2, hb2, hK⟩
  have hs1s := hE1.size
  refine ⟨rfl, _, ⟨dg', mg', _, _, _, _, hd2, hb2, g4, rfl⟩, (hK.pre hE1).mono (fun q _ e => .inl e), fun q hq => ?_⟩
  rcases hq with e | e | e
  · exact .inl (.inl e)
  · exact .inr (e ▸ Nat.le_trans hs1s k1)
  · exact .inr (e ▸ Nat.le_trans hs1s k2)
theorem lineGet (y : Nat) (St : StM) (O T : Nat → Prop) (W : World) (h : StTab y St O T W) (hO : ∀ q, O q → q < W.heap.size) (hs : St.s.Ok) (A : Option Addr) (c : Nat) (hl : rdStr.Sl (fun q => O q ∨ T q) W A c [getB, finalB])
    (hn : St.parts.length ≤ 1000) (hN : St.parts.flatten.length ≤ 100000) (ho : ∀ x ∈ St.parts, Srt (cmpS St.s) x ∧ ∀ r ∈ x, RowOk St.s r)
    (rows : List Row) (hrows : rows = told St.s true St.parts) (hr1 : rows.length < 100) (sss : List (List ByteArray)) (hsl : sss.length = rows.length) (hsay : ∀ k (h1 : k < rows.length) (h2 : k < sss.length), SaysR W St.s.types rows[k] sss[k] ∧ (joinL sss[k] ⟨#[32]⟩).length ≤ 1000000000) (hjl : (joinL (tells rows sss) ⟨#[10]⟩).length ≤ 1000000000) :
    Calls Tryz.prog 47 #[BX y, .slice A 2 c] W fun e W' => e = .returned (.string (BA (joinL (tells rows sss) ⟨#[10]⟩))) ∧ ∃ T', StTab y St O T' W' ∧ Keep T W W' ∧ ∀ q, T' q → T q ∨ W.heap.size ≤ q := by
  have hown := stTab_own h
  have h0 := h
  obtain ⟨dg, mg, tg, pv, Ad, cd, g1, g2, g3, g4, rfl⟩ := h
  have hGl : ∀ q, (O q ∨ (q = y ∨ SB tg dg mg pv q)) → q < W.heap.size := fun q e => e.elim (hO q) (fun e => (hown q e).1)
  have hFl : ∀ q, (O q ∨ q = y) → q < W.heap.size := fun q e => hGl q (e.elim .inl (fun e => .inr (.inl e)))
  refine lineGetC (fun q => O q ∨ (q = y ∨ SB tg dg mg pv q)) y (BX dg) _ _ _ _ tg W g2 A c [finalB] hl (by decide) _ _ ?_
  intro A2 c2 hl2
  have hg := getC (fun q => O q ∨ q = y) y dg mg tg pv St hs W g1 Ad cd g2 (Rd.Sl.narrow Nat.one_pos g3 (fun k _ e => e.elim .inl (fun e => .inr (.inl e)))) hn hN ho A2 c2 (hl2.narrow (by decide) (fun k _ e => e.elim .inl (fun e => .inr (.inl e)))) rows hrows hr1 sss hsl hsay hjl hFl
  refine hg.mono ?_
  rintro e w' ⟨rfl, hE⟩
  exact ⟨rfl, _, stTab_keep h0 (hE.keep _), hE.keep _, fun q e => .inl e⟩
end K104
namespace K82
open Go Go.RowKit Go.Lib
open KB KB2
set_option linter.unusedVariables false
set_option linter.unusedSimpArgs false
set_option maxHeartbeats 2000000
set_option maxRecDepth 100000
theorem keep_row (w : World) (g : Nat) (cs : Array Value) : Keep (fun k => k = g) w (w.setRow g cs) := ⟨rfl, rfl, rfl, by simp [World.setRow], fun k _ hk => setRow_other w g k _ hk⟩
theorem own_suf {P : Program} {t e : TypeId} {bytes : Nat} (hE : El P t e 1 bytes) (g n cap lo : Nat) (h : lo ≤ n) (hc : lo < cap) (kl : IntKind) (W : World) : (Instr.slice t (.slice (some ⟨g, 0, none⟩) n cap) (some (.int kl lo)) none none).run P W = .ok (.slice (some ⟨g, lo, none⟩) (n - lo) (cap - lo)) W := by
  obtain ⟨hu, i', z, hi, hz, hsz, hb, hzs, hp⟩ := hE
  have hel : P.elem t = e := by unfold Program.elem; rw [hu]
  rw [run_slice_l W t (some ⟨g, 0, none⟩) n cap (by rw [hel]; exact hu) kl lo (by omega) (by omega)]
  simp [hel, sizeOf, typeInfo, hi, hsz, sliced, show ¬ cap = lo by omega, Addr.add]
  try omega
theorem own_suf' {P : Program} {t e : TypeId} {bytes : Nat} (hE : El P t e 1 bytes) (g n cap lo m cm : Nat) (I : Int) (hI : I = lo) (h : lo ≤ n) (hc : lo < cap) (hm : n - lo = m) (hcm : cap - lo = cm) (kl : IntKind) (W : World) : (Instr.slice t (.slice (some ⟨g, 0, none⟩) n cap) (some (.int kl I)) none none).run P W = .ok (.slice (some ⟨g, lo, none⟩) m cm) W := by
  subst hI hm hcm
  exact own_suf hE g n cap lo h hc kl W
theorem own_pre' {P : Program} {t e : TypeId} {bytes : Nat} (hE : El P t e 1 bytes) (g n cap m : Nat) (I : Int) (hI : I = m) (hm : m ≤ n) (hn : n ≤ cap) (kh : IntKind) (W : World) : (Instr.slice t (.slice (some ⟨g, 0, none⟩) n cap) none (some (.int kh I)) none).run P W = .ok (.slice (some ⟨g, 0, none⟩) m cap) W := by
  subst hI
  exact own_pre hE g n cap m hm hn kh W
theorem own_mid' {P : Program} {t e : TypeId} {bytes : Nat} (hE : El P t e 1 bytes) (g n cap lo hi : Nat) (hl : lo ≤ hi) (hh : hi ≤ n) (hn : n ≤ cap) (hc : lo < cap) (kl kh : IntKind) (W : World) : (Instr.slice t (.slice (some ⟨g, 0, none⟩) n cap) (some (.int kl lo)) (some (.int kh hi)) none).run P W = .ok (.slice (some ⟨g, lo, none⟩) (hi - lo) (cap - lo)) W := by
  obtain ⟨hu, i', z, hi', hz, hsz, hb, hzs, hp⟩ := hE
  have hel : P.elem t = e := by unfold Program.elem; rw [hu]
  rw [run_slice_lh W t (some ⟨g, 0, none⟩) n cap (by rw [hel]; exact hu) kl kh lo hi (by omega) (by omega) (by omega)]
  simp [hel, sizeOf, typeInfo, hi', hsz, sliced, show ¬ cap = lo by omega, Addr.add]
  try omega
theorem setCells_row (g : Nat) : ∀ (vs : List Value) (o : Nat) (w : World) (cur : Array Value) (T : TypeId), w.heap[g]? = some (.cells cur T (0, 0)) → ∃ cur' : Array Value, (w.setCells g o vs).heap[g]? = some (.cells cur' T (0, 0)) ∧ cur'.size = cur.size ∧ (∀ j, j < o → cur'[j]? = cur[j]?) ∧ Keep (fun k => k = g) w (w.setCells g o vs)
  | [], o, w, cur, T, h => ⟨cur, h, rfl, fun _ _ => rfl, Keep.refl _ _⟩
  | v :: vs, o, w, cur, T, h => by
    obtain ⟨cur', h1, h2, h3, h4⟩ := setCells_row g vs (o + 1) (w.setCell ⟨g, o, none⟩ v) _ T (blk_set h o v)
    refine ⟨cur', h1, by rw [h2]; simp, fun j hj => ?_, (Keep.setCell (F := fun k => k = g) w ⟨g, o, none⟩ v rfl).trans h4⟩
    rw [h3 j (by omega), Array.getElem?_setIfInBounds_ne (by omega)]
section
variable {P : Program} {w : World} {ops : Array Oper} {rest : List Oper} {o : Oper} {a : Act} {Q : Exit → Act → World → Prop}
/-- 'append(s, x)', where there is room. -/
theorem wpList_roomR (hgd : o.guard = none) (s x : Operand) (t : TypeId) (ho : o.op = .call { callee := .builtin .append, args := #[s, x], argTypes := #[t, t] })
    {e : TypeId} {bytes : Nat} (hE : El P t e 1 bytes) (g k cap : Nat) (hs : a.eval s = .slice (some ⟨g, 0, none⟩) k cap) (cur : Array Value) (hg : w.heap[g]? = some (.cells cur e (0, 0))) (hsz : cur.size = cap) (q c : Nat) (hx : a.eval x = .slice (some ⟨q, 0, none⟩) 1 c)
    (v : Value) (hv : w.cell? ⟨q, 0, none⟩ = some v) (h1 : v.oneCell' = true) (hroom : k + 1 ≤ cap)
    (h : ∀ w' cur', w'.heap[g]? = some (.cells cur' e (0, 0)) → cur'.size = cap → cur'.toList.take (k + 1) = cur.toList.take k ++ [v] → Keep (fun i => i = g) w w' → wpList P ops Q rest (a.put o.dst (.slice (some ⟨g, 0, none⟩) (k + 1) cap)) w') : wpList P ops Q (o :: rest) a w := by
  obtain ⟨hu, i, z, hi, hz, hsi, hb, hzs, hp⟩ := hE
  refine wpList_plain hgd fun K hK => ?_
  have hrun := run_append_room (P := P) w t o.type e i hu hi g k cap cur hg ⟨q, 0, none⟩ 1 c [v] (by simp [hsi]) (fun j u hj => by
    have : j = 0 := by have := (List.getElem?_eq_some_iff.1 hj).1; simp at this; omega
    subst this; cases hj; exact hv) (by simpa using h1) hroom (by rw [hsi]; simp; omega)
  unfold Oper.wp
  simp [execOp, ho, resolve, invoke, builtin, hs, hx, hrun, Result.andThen]
  refine hK _ _ (h _ _ (setRow_heap w g cur _ e _ hg) ?_ ?_ (keep_row w g _))
  · have : min k cur.size = k := Nat.min_eq_left (by omega)
    simp [hsi, this]; omega
  · have : min k cur.size = k := Nat.min_eq_left (by omega)
    rw [hsi, Nat.mul_one]
    show List.take (k + 1) (cur.toList.take k ++ v :: cur.toList.drop (k + 1)) = _
    rw [show cur.toList.take k ++ v :: cur.toList.drop (k + 1) = (cur.toList.take k ++ [v]) ++ cur.toList.drop (k + 1) from by simp]
    refine List.take_left' ?_
    rw [List.length_append, List.length_take, Array.length_toList, this]; rfl
/-- 'copy' into a row known whole. -/
theorem wpList_copyR (hgd : o.guard = none) (d s : Operand) (t : TypeId) (ho : o.op = .call { callee := .builtin .copy, args := #[d, s], argTypes := #[t, t] })
    {e : TypeId} {bytes : Nat} (hE : El P t e 1 bytes) (g off n c : Nat) (hd : a.eval d = .slice (some ⟨g, off, none⟩) n c) (cur : Array Value) (hg : w.heap[g]? = some (.cells cur e (0, 0))) (q qo m mc : Nat) (hs : a.eval s = .slice (some ⟨q, qo, none⟩) m mc)
    (cs : List Value) (hm : cs.length = m) (hmn : m ≤ n) (hv : ∀ j v, cs[j]? = some v → w.cell? ⟨q, qo + j, none⟩ = some v) (h1 : ∀ v ∈ cs, v.oneCell' = true) (hfit : off + m ≤ cur.size)
    (h : ∀ w' cur', w'.heap[g]? = some (.cells cur' e (0, 0)) → cur'.size = cur.size → cur'.toList = cur.toList.take off ++ (cs ++ cur.toList.drop (off + m)) → Keep (fun i => i = g) w w' → wpList P ops Q rest (a.put o.dst (goInt m)) w') : wpList P ops Q (o :: rest) a w := by
  obtain ⟨hu, i, z, hi, hz, hsi, hb, hzs, hp⟩ := hE
  subst hm
  refine wpList_copy_own hgd d s t t ho e hu (by rw [hi]; simp [hsi]) g off n c ⟨q, qo, none⟩ cs.length mc hd hs cur e hg cs (Nat.min_eq_left hmn).symm (fun j v hj => by rw [Addr.add_lit]; exact hv j v hj) hfit h1 ?_
  refine h _ _ (setRow_heap w g cur _ e _ hg) ?_ (by simp) (keep_row w g _)
  have hmo : Nat.min off cur.size = off := Nat.min_eq_left (by omega)
  have hmo' : min off cur.size = off := hmo
  simp [hmo']; omega
theorem step_copyR {K : Act → World → Prop} {E : Prop} (hgd : o.guard = none) (d s : Operand) (t : TypeId) (ho : o.op = .call { callee := .builtin .copy, args := #[d, s], argTypes := #[t, t] })
    {e : TypeId} {bytes : Nat} (hE : El P t e 1 bytes) (g off n c : Nat) (hd : a.eval d = .slice (some ⟨g, off, none⟩) n c) (cur : Array Value) (hg : w.heap[g]? = some (.cells cur e (0, 0))) (q qo m mc : Nat) (hs : a.eval s = .slice (some ⟨q, qo, none⟩) m mc)
    (cs : List Value) (hm : cs.length = m) (hmn : m ≤ n) (hv : ∀ j v, cs[j]? = some v → w.cell? ⟨q, qo + j, none⟩ = some v) (h1 : ∀ v ∈ cs, v.oneCell' = true) (hfit : off + m ≤ cur.size)
    (h : ∀ w' cur', w'.heap[g]? = some (.cells cur' e (0, 0)) → cur'.size = cur.size → cur'.toList = cur.toList.take off ++ (cs ++ cur.toList.drop (off + m)) → Keep (fun i => i = g) w w' → K (a.put o.dst (goInt m)) w') : if Region.wanted o (yielded ops a.tmps) = true then Oper.wp P o a w K Q else E := by
  obtain ⟨hu, i, z, hi, hz, hsi, hb, hzs, hp⟩ := hE
  subst hm
  have hwt : Region.wanted o (yielded ops a.tmps) = true := by simp [Region.wanted, hgd]
  rw [if_pos hwt]
  have hrun := run_copy_row (P := P) w t t o.type e g off n c ⟨q, qo, none⟩ cs.length mc cur e cs hu (by rw [hi]; simp [hsi]) hg (Nat.min_eq_left hmn).symm (fun j v hj => by rw [Addr.add_lit]; exact hv j v hj) hfit h1
  unfold Oper.wp
  simp [execOp, ho, resolve, invoke, builtin, hd, hs, hrun, Result.andThen]
  refine h _ _ (setRow_heap w g cur _ e _ hg) ?_ (by simp) (keep_row w g _)
  have hmo : Nat.min off cur.size = off := Nat.min_eq_left (by omega)
  have hmo' : min off cur.size = off := hmo
  simp [hmo']; omega
/-- 'clear' of what is behind. -/
theorem wpList_clearR (hgd : o.guard = none) (s : Operand) (t : TypeId) (ho : o.op = .call { callee := .builtin .clear, args := #[s], argTypes := #[t] })
    {e : TypeId} {bytes : Nat} (hE : El P t e 1 bytes) (z : Value) (hz : ∀ w, (zeroValue e).run P w = .ok z w) (hzc : z.cells = #[z]) (hz1 : z.oneCell' = true) (g off n c : Nat) (hs : a.eval s = .slice (some ⟨g, off, none⟩) n c) (cur : Array Value) (hg : w.heap[g]? = some (.cells cur e (0, 0))) (hn : 0 < n) (hfit : off + n ≤ cur.size)
    (h : ∀ w' cur', w'.heap[g]? = some (.cells cur' e (0, 0)) → cur'.size = cur.size → cur'.toList.take off = cur.toList.take off → Keep (fun i => i = g) w w' → wpList P ops Q rest (a.put o.dst (.tuple #[])) w') : wpList P ops Q (o :: rest) a w := by
  obtain ⟨hu, i, zz, hi, hzz, hsi, hb, hzs, hp⟩ := hE
  refine wpList_plain hgd fun K hK => ?_
  have hrun := run_clear_slice (P := P) w t e o.type z hu hz hzc hz1 g off n c hn (fun j hj => by rw [blk_cell hg]; simp; omega) (fun j hj => blk_froz hg _)
  unfold Oper.wp
  simp [execOp, ho, resolve, invoke, builtin, hs, hrun, Result.andThen]
  obtain ⟨cur', h1, h2, h3, h4⟩ := setCells_row g (List.replicate n z) off w cur e hg
  refine hK _ _ (h _ _ h1 h2 ?_ h4)
  apply List.ext_getElem?
  intro j
  rw [List.getElem?_take, List.getElem?_take]
  by_cases q : j < off
  · rw [if_pos q, if_pos q, Array.getElem?_toList, Array.getElem?_toList, h3 j q]
  · rw [if_neg q, if_neg q]
end
end K82
end Go.Proofs.YtbjeejimedhniaaGreatDoor
