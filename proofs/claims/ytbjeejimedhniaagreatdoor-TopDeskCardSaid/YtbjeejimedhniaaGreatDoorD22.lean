/- Contracts of the program's functions, as the walks of the law use them. -/
import Derived.Test.YtbjeejimedhniaaGreatDoorD2
import Derived.Test.YtbjeejimedhniaaGreatDoorD21
import Derived.Test.YtbjeejimedhniaaGreatDoorD1
import Derived.Deep.DeepCutAuto
import Derived.StillTailTactics
import Derived.BigQuiet
import Derived.Great.BuildSlice
import Derived.Great.Walk
import Derived.Test.YtbjeejimedhniaaGreatDoorD0
import Derived.StillTail
import Derived.Deep.RegionHeld3
set_option linter.unusedVariables false
set_option linter.unusedSimpArgs false
set_option maxRecDepth 100000
set_option maxHeartbeats 4000000
namespace Go.Proofs.YtbjeejimedhniaaGreatDoor
namespace K121
open Go Go.RowKit
open KB KB2 K1 K88 K89 K90 K91 K115
abbrev countB : ByteArray := ⟨#[99, 111, 117, 110, 116]⟩
abbrev sumC : ByteArray := ⟨#[115, 117, 109]⟩
abbrev minB : ByteArray := ⟨#[109, 105, 110]⟩
abbrev maxB : ByteArray := ⟨#[109, 97, 120]⟩
abbrev oneB : ByteArray := ⟨#[49]⟩
theorem among4 (k : Nat) (x : ByteArray) (hkx : k = 0 ∧ x = countB ∨ k = 1 ∧ x = sumC) (g : Nat) (T : TypeId) (fr : Nat × Nat) (w : World) (h : w.heap[g]? = some (.cells #[.string countB, .string sumC, .string minB, .string maxB] T fr)) :
   Calls Tryz.prog 188 #[.string x, .slice (some ⟨g, 0, none⟩) 4 4] w fun e w' => e = .returned (.int .i64 (k + 1)) ∧ Ext w w' := by
 have hs : rdStr.Sl (fun _ => False) w (some ⟨g, 0, none⟩) 4 [countB, sumC, minB, maxB] := lit_one rfl h (fun q => q) rfl (by simp [maxLen]) (fun k x hk => by
   match k, hk with
   | 0, hk => cases hk; exact ⟨_, rfl, rfl⟩
   | 1, hk => cases hk; exact ⟨_, rfl, rfl⟩
   | 2, hk => cases hk; exact ⟨_, rfl, rfl⟩
   | 3, hk => cases hk; exact ⟨_, rfl, rfl⟩)
 rcases hkx with ⟨rfl, rfl⟩ | ⟨rfl, rfl⟩
 · exact amongC _ _ _ [countB, sumC, minB, maxB] countB 0 w hs (by simp) (by decide) rfl (fun j h => absurd h (Nat.not_lt_zero _))
 · exact amongC _ _ _ [countB, sumC, minB, maxB] sumC 1 w hs (by simp) (by decide) rfl (fun j h => by
     match j, h with
     | 0, _ => show countB ≠ sumC; decide)
theorem columnC (F : Nat → Prop) (b : Nat) (x : ByteArray) (n : Nat) (l : List ByteArray) (w : World) (h : WordsAt F w b (x :: l)) (hn : (x :: l).length ≤ 100000) (hs : ∀ W, Says W 1 x n) (s : Sch) (hns : n < s.types.length) (hn9 : n ≤ 999999) (v0 : Option Addr) (c0 : Nat) (n1 n2 n3 : Int) :
   Calls Tryz.prog 277 #[.pointer (some ⟨b, 0, none⟩), .agg #[.slice v0 s.types.length c0, .int .i64 n1, .int .i64 n2, .int .i64 n3]] w fun e w' => e = .returned (.int .i64 n) ∧ WordsAt F w' b l ∧ Keep (fun k => k = b) w w' := by
 have hl := words_lt h
 have hE1 := (Ext.refl w).alloc (.cells #[.slice v0 s.types.length c0, .int .i64 n1, .int .i64 n2, .int .i64 n3] 27)
 have hB1 := bN w (.cells #[.slice v0 s.types.length c0, .int .i64 n1, .int .i64 n2, .int .i64 n3] 27)
 have HN := As.mk (nextC F b x l _ (words_ext h hE1) hn)
 have hnx : ¬ w.heap.size = b := by omega
 have hlt : ((n : Int) < (s.types.length : Int)) := by omega
 have hge : decide ((s.types.length : Int) ≤ (n : Int)) = false := decide_eq_false (by omega)
 clear h
 go_enter Tryz.func277, Tryz.ntmps277
 go_wp2_with (fail)
 refine HN.out.mono ?_; rintro e w2 ⟨rfl, hw2, k2⟩
 have hB2 := k2.blk hnx hB1
 have HNUM := As.mk (numberC x n (by omega) (by omega) w2 (hs w2))
 clear hs
 go_wp2_with (fail)
 refine HNUM.out.mono ?_; rintro e w3 ⟨rfl, hE3⟩
 (have p0 := bC (hE3.blk hB2) 0; have p1 := bC (hE3.blk hB2) 1; have p2 := bC (hE3.blk hB2) 2; have p3 := bC (hE3.blk hB2) 3)
 go_wp2_with (fail)
 go_ret
 exact ⟨rfl, words_ext hw2 hE3, (Keep.pre k2 hE1).post hE3⟩
theorem prFree : rdPr.Free := fun _ _ _ _ _ _ h => h
theorem amongCount (g : Nat) (T : TypeId) (fr : Nat × Nat) (w : World) (h : w.heap[g]? = some (.cells #[.string countB, .string sumC, .string minB, .string maxB] T fr)) :
   Calls Tryz.prog 188 #[.string countB, .slice (some ⟨g, 0, none⟩) 4 4] w fun e w' => e = .returned (.int .i64 1) ∧ Ext w w' := among4 0 countB (.inl ⟨rfl, rfl⟩) g T fr w h
theorem amongSum (g : Nat) (T : TypeId) (fr : Nat × Nat) (w : World) (h : w.heap[g]? = some (.cells #[.string countB, .string sumC, .string minB, .string maxB] T fr)) :
   Calls Tryz.prog 188 #[.string sumC, .slice (some ⟨g, 0, none⟩) 4 4] w fun e w' => e = .returned (.int .i64 2) ∧ Ext w w' := among4 1 sumC (.inr ⟨rfl, rfl⟩) g T fr w h
theorem queryWC (F : Nat → Prop) (b : Nat) (w : World) (h : WordsAt F w b [finalB, countB, sumC, oneB]) (Ax : Option Addr) (cx : Nat) (s : Sch) (hs2 : 1 < s.types.length) (hs1 : ∀ W, Says W 1 oneB (1 : Nat)) (hF : ∀ k, F k → k < w.heap.size) :
   Calls Tryz.prog 193 #[.pointer (some ⟨b, 0, none⟩), schV Ax cx s] w fun e w' => ∃ Aq cq, e = .returned (.agg #[.bool false, .bool false, .slice none 0 0, .slice none 0 0, .bool true, .slice none 0 0, .slice Aq 2 cq]) ∧ rdPr.Sl F w' Aq cq [(1, 0), (2, 1)] ∧ WordsAt F w' b [] ∧ Keep (fun k => k = b) w w' := by
 have hl := words_lt h
 have hw0 := words_narrow (G := fun i => F i ∨ w.heap.size ≤ i) h (fun i hi q => q.elim id (fun q => by omega))
 have HI := As.mk (fun W (hW : Ext w W) => isC _ b finalB [countB, sumC, oneB] W (words_ext hw0 hW) (by decide))
 have HN := As.mk (fun (W : World) (s : ByteArray) (hW : WordsAt (fun i => F i ∨ w.heap.size ≤ i) W b [countB, sumC, oneB]) (hs : countB ≠ s) => isntC _ b s [countB, sumC, oneB] W hW (fun e => hs (Option.some.inj e)) (by decide))
 have hE3 := (((Ext.refl w).alloc (.cells #[.slice Ax s.types.length cx, .int .i64 s.keys, .int .i64 s.mode, .int .i64 s.grain] 27)).alloc (.cells (qCells false) 75)).alloc (.cells (qCells false) 75)
 have hR := bN (w.alloc (.cells #[.slice Ax s.types.length cx, .int .i64 s.keys, .int .i64 s.mode, .int .i64 s.grain] 27)) (.cells (qCells false) 75)
 replace hR := ((Ext.refl _).alloc (.cells (qCells false) 75)).blk hR
 have hQ := bN ((w.alloc (.cells #[.slice Ax s.types.length cx, .int .i64 s.keys, .int .i64 s.mode, .int .i64 s.grain] 27)).alloc (.cells (qCells false) 75)) (.cells (qCells false) 75)
 have hT := ((Ext.refl _).alloc (.cells (qCells false) 75)).blk (((Ext.refl _).alloc (.cells (qCells false) 75)).blk (bN w (.cells #[.slice Ax s.types.length cx, .int .i64 s.keys, .int .i64 s.mode, .int .i64 s.grain] 27)))
 simp only [World.size_alloc] at hR hQ
 clear h hw0
 go_enter Tryz.func193, Tryz.ntmps193
 go_wp2_with (fail)
 refine (HI.out _ hE3).mono ?_; rintro e w4 ⟨rfl, hw4, k4⟩
 have hR4 := k4.blk (by omega) hR
 have hQ4 := k4.blk (by omega) hQ
 have hT4 := k4.blk (by omega) hT
 have K4 := (Keep.pre k4 hE3).mono (G := fun i => i = b) (fun _ _ q => q)
 have hS4 := k4.size
 clear k4 hR hQ hT hE3
 (have p0 := bC (hQ4) 0; have pf0 := bF (hQ4) 0; have p1 := bC (hQ4) 1; have pf1 := bF (hQ4) 1; have p2 := bC (hQ4) 2; have pf2 := bF (hQ4) 2; have p3 := bC (hQ4) 3; have pf3 := bF (hQ4) 3; have p4 := bC (hQ4) 4; have pf4 := bF (hQ4) 4; have p5 := bC (hQ4) 5; have pf5 := bF (hQ4) 5; have p6 := bC (hQ4) 6; have pf6 := bF (hQ4) 6)
 go_wp2_with (fail)
 have hS5 := kS1 w4 (w.heap.size + 1 + 1) 4 (.bool true)
 have hQ5 := bS hQ4 4 (.bool true)
 have hR5 := hS5.blk (by omega) hR4
 have hT5 := hS5.blk (by omega) hT4
 have hw5 := words_keep hw4 hS5 (fun i q => .inr (by omega)) (by omega)
 have K5 := K4.newB hS5 (fun j q => .inr (by omega))
 clear p0 pf0 p1 pf1 p2 pf2 p3 pf3 p4 pf4 p5 pf5 p6 pf6
 clear hQ4 hR4 hT4 hw4 K4 hS5
 generalize w4.setCell ⟨w.heap.size + 1 + 1, 4, none⟩ (.bool true) = w5 at *
 (have p0 := bC (hQ5) 0; have pf0 := bF (hQ5) 0; have p1 := bC (hQ5) 1; have pf1 := bF (hQ5) 1; have p2 := bC (hQ5) 2; have pf2 := bF (hQ5) 2; have p3 := bC (hQ5) 3; have pf3 := bF (hQ5) 3; have p4 := bC (hQ5) 4; have pf4 := bF (hQ5) 4; have p5 := bC (hQ5) 5; have pf5 := bF (hQ5) 5; have p6 := bC (hQ5) 6; have pf6 := bF (hQ5) 6)
 obtain ⟨A5, c5, hb5, -⟩ := id hw5
 (have q0 := bC (hb5) 0; have qf0 := bF (hb5) 0; have q1 := bC (hb5) 1; have qf1 := bF (hb5) 1)
 go_wp2_with (fail)
 refine (HN.out w5 _ hw5 (by decide)).mono ?_; rintro e w6 ⟨rfl, hE6⟩
 have hQ6 := hE6.blk hQ5
 have hR6 := hE6.blk hR5
 have hT6 := hE6.blk hT5
 have hw6 := words_ext hw5 hE6
 have K6 := K5.post hE6
 clear p0 pf0 p1 pf1 p2 pf2 p3 pf3 p4 pf4 p5 pf5 p6 pf6
 clear hQ5 hR5 hT5 hw5 K5 hE6 q0 q1 qf0 qf1 hb5
 (have p0 := bC (hQ6) 0; have pf0 := bF (hQ6) 0; have p1 := bC (hQ6) 1; have pf1 := bF (hQ6) 1; have p2 := bC (hQ6) 2; have pf2 := bF (hQ6) 2; have p3 := bC (hQ6) 3; have pf3 := bF (hQ6) 3; have p4 := bC (hQ6) 4; have pf4 := bF (hQ6) 4; have p5 := bC (hQ6) 5; have pf5 := bF (hQ6) 5; have p6 := bC (hQ6) 6; have pf6 := bF (hQ6) 6)
 obtain ⟨A6, c6, hb6, -⟩ := id hw6
 (have q0 := bC (hb6) 0; have qf0 := bF (hb6) 0; have q1 := bC (hb6) 1; have qf1 := bF (hb6) 1)
 go_wp2_with (fail)
 have hS7 := kS1 w6 (w.heap.size + 1 + 1) 0 (.bool false)
 have hQ7 := bS hQ6 0 (.bool false)
 have hR7 := hS7.blk (by omega) hR6
 have hT7 := hS7.blk (by omega) hT6
 have hw7 := words_keep hw6 hS7 (fun i q => .inr (by omega)) (by omega)
 have K7 := K6.newB hS7 (fun j q => .inr (by omega))
 clear p0 pf0 p1 pf1 p2 pf2 p3 pf3 p4 pf4 p5 pf5 p6 pf6
 clear hQ6 hR6 hT6 hw6 K6 hS7 q0 q1 qf0 qf1 hb6
 generalize w6.setCell ⟨w.heap.size + 1 + 1, 0, none⟩ (.bool false) = w7 at *
 (have p0 := bC (hQ7) 0; have pf0 := bF (hQ7) 0; have p1 := bC (hQ7) 1; have pf1 := bF (hQ7) 1; have p2 := bC (hQ7) 2; have pf2 := bF (hQ7) 2; have p3 := bC (hQ7) 3; have pf3 := bF (hQ7) 3; have p4 := bC (hQ7) 4; have pf4 := bF (hQ7) 4; have p5 := bC (hQ7) 5; have pf5 := bF (hQ7) 5; have p6 := bC (hQ7) 6; have pf6 := bF (hQ7) 6)
 obtain ⟨A7, c7, hb7, -⟩ := id hw7
 (have q0 := bC (hb7) 0; have qf0 := bF (hb7) 0; have q1 := bC (hb7) 1; have qf1 := bF (hb7) 1)
 go_wp2_with (fail)
 refine (HN.out w7 _ hw7 (by decide)).mono ?_; rintro e w8 ⟨rfl, hE8⟩
 have hQ8 := hE8.blk hQ7
 have hR8 := hE8.blk hR7
 have hT8 := hE8.blk hT7
 have hw8 := words_ext hw7 hE8
 have K8 := K7.post hE8
 clear p0 pf0 p1 pf1 p2 pf2 p3 pf3 p4 pf4 p5 pf5 p6 pf6
 clear hQ7 hR7 hT7 hw7 K7 hE8 q0 q1 qf0 qf1 hb7
 (have p0 := bC (hQ8) 0; have pf0 := bF (hQ8) 0; have p1 := bC (hQ8) 1; have pf1 := bF (hQ8) 1; have p2 := bC (hQ8) 2; have pf2 := bF (hQ8) 2; have p3 := bC (hQ8) 3; have pf3 := bF (hQ8) 3; have p4 := bC (hQ8) 4; have pf4 := bF (hQ8) 4; have p5 := bC (hQ8) 5; have pf5 := bF (hQ8) 5; have p6 := bC (hQ8) 6; have pf6 := bF (hQ8) 6)
 obtain ⟨A8, c8, hb8, -⟩ := id hw8
 (have q0 := bC (hb8) 0; have qf0 := bF (hb8) 0; have q1 := bC (hb8) 1; have qf1 := bF (hb8) 1)
 go_wp2_with (fail)
 have hS9 := kS1 w8 (w.heap.size + 1 + 1) 1 (.bool false)
 have hQ9 := bS hQ8 1 (.bool false)
 have hR9 := hS9.blk (by omega) hR8
 have hT9 := hS9.blk (by omega) hT8
 have hw9 := words_keep hw8 hS9 (fun i q => .inr (by omega)) (by omega)
 have K9 := K8.newB hS9 (fun j q => .inr (by omega))
 clear p0 pf0 p1 pf1 p2 pf2 p3 pf3 p4 pf4 p5 pf5 p6 pf6
 clear hQ8 hR8 hT8 hw8 K8 hS9 q0 q1 qf0 qf1 hb8
 generalize w8.setCell ⟨w.heap.size + 1 + 1, 1, none⟩ (.bool false) = w9 at *
 (have p0 := bC (hQ9) 0; have pf0 := bF (hQ9) 0; have p1 := bC (hQ9) 1; have pf1 := bF (hQ9) 1; have p2 := bC (hQ9) 2; have pf2 := bF (hQ9) 2; have p3 := bC (hQ9) 3; have pf3 := bF (hQ9) 3; have p4 := bC (hQ9) 4; have pf4 := bF (hQ9) 4; have p5 := bC (hQ9) 5; have pf5 := bF (hQ9) 5; have p6 := bC (hQ9) 6; have pf6 := bF (hQ9) 6)
 obtain ⟨A9, c9, hb9, -⟩ := id hw9
 (have q0 := bC (hb9) 0; have qf0 := bF (hb9) 0; have q1 := bC (hb9) 1; have qf1 := bF (hb9) 1)
 go_wp2_with (fail)
 refine wp_loop_rounds 1 ?_
 rw [rounds_succ]
 go_wp2_with (fail)
 refine (HN.out w9 _ hw9 (by decide)).mono ?_; rintro e w10 ⟨rfl, hE10⟩
 have hQ10 := hE10.blk hQ9
 have hR10 := hE10.blk hR9
 have hT10 := hE10.blk hT9
 have hw10 := words_ext hw9 hE10
 have K10 := K9.post hE10
 clear p0 pf0 p1 pf1 p2 pf2 p3 pf3 p4 pf4 p5 pf5 p6 pf6
 clear hQ9 hR9 hT9 hw9 K9 hE10 q0 q1 qf0 qf1 hb9
 (have p0 := bC (hQ10) 0; have pf0 := bF (hQ10) 0; have p1 := bC (hQ10) 1; have pf1 := bF (hQ10) 1; have p2 := bC (hQ10) 2; have pf2 := bF (hQ10) 2; have p3 := bC (hQ10) 3; have pf3 := bF (hQ10) 3; have p4 := bC (hQ10) 4; have pf4 := bF (hQ10) 4; have p5 := bC (hQ10) 5; have pf5 := bF (hQ10) 5; have p6 := bC (hQ10) 6; have pf6 := bF (hQ10) 6)
 obtain ⟨A10, c10, hb10, -⟩ := id hw10
 (have q0 := bC (hb10) 0; have qf0 := bF (hb10) 0; have q1 := bC (hb10) 1; have qf1 := bF (hb10) 1)
 go_wp2_with (fail)
 have hQn : w10.heap[w.heap.size + 1 + 1]? = some (.cells #[.bool false, .bool false, .slice none 0 0, .slice none 0 0, .bool true, .slice none 0 0, .slice none 0 0] 75 (0, 0)) := hQ10
 have hown10 := Rd.Own.nil rdPr F (w.heap.size + 3) 274 w10
 obtain ⟨v10, hv10⟩ : ∃ v, v = Value.slice none 0 0 := ⟨_, rfl⟩
 clear hQ10 HI HN
 refine wp_loop_rounds 3 ?_
 rw [rounds_succ]
 go_wp2_with (fail)
 refine (nextC _ b countB [sumC, oneB] w10 hw10 (by decide)).mono ?_; rintro e w11 ⟨rfl, hw11, k11⟩
 have hQ11 := k11.blk (by omega) hQn
 have hR11 := k11.blk (by omega) hR10
 have hT11 := k11.blk (by omega) hT10
 have K11 := K10.newB k11 (fun j q => .inl q)
 have hown11 := hown10.free (G := F) prFree (fun g hg => k11.block g (hown10.ge g hg).2 (fun e => by have := (hown10.ge g hg).1; omega))
 have hz11 := blk_lt hQ11
 clear p0 pf0 p1 pf1 p2 pf2 p3 pf3 p4 pf4 p5 pf5 p6 pf6
 clear q0 q1 qf0 qf1 hb10 hQn hR10 hT10 K10 hown10 k11 hw10
 go_wp2_with (fail)
 refine (amongCount _ _ _ _ (bN w11 _)).mono ?_; rintro e w12 ⟨rfl, hE12⟩
 have x12 : Ext w11 w12 := Ext.trans ((Ext.refl w11).alloc _) hE12
 have D13 := bN w12 (.cells #[.int .i64 1, .int .i64 0] 274)
 have x13 := x12.alloc (.cells #[.int .i64 1, .int .i64 0] 274)
 go_upto_region 13 with (fail)
 have hQ13 := x13.blk hQ11
 have hR13 := x13.blk hR11
 have hT13 := x13.blk hT11
 have hw13 := words_ext hw11 x13
 have K13 := K11.post x13
 have hown13 := hown11.ext x13
 have hzb := x12.size
 obtain ⟨ag, hag⟩ : ∃ ag, w12.heap.size = ag := ⟨_, rfl⟩
 rw [hag] at D13 hzb ⊢
 have hagl : w.heap.size + 3 ≤ ag := by omega
 clear hQ11 hR11 hT11 hw11 K11 hown11 x12 x13 hE12 hag hzb hz11
 generalize w12.alloc (.cells #[.int .i64 1, .int .i64 0] 274) = w13 at *
 (have d0 := bC (D13) 0; have d1 := bC (D13) 1)
 obtain ⟨A16, c16, hb16, hf16, hs16⟩ := id hw13
 (have q0 := bC (hb16) 0; have qf0 := bF (hb16) 0; have q1 := bC (hb16) 1; have qf1 := bF (hb16) 1)
 go_upto_region 16 with (fail)
 have K4s := kS1 w13 b 1 (.bool false)
 have hb4 := bS hb16 1 (.bool false)
 have hw16 : WordsAt (fun i => F i ∨ w.heap.size ≤ i) (w13.setCell ⟨b, 1, none⟩ (.bool false)) b [sumC, oneB] := ⟨A16, c16, hb4, hf16, hs16.keep (K4s.mono (fun _ _ q => .inr q))⟩
 have hQ16 := K4s.blk (by omega) hQ13
 have hR16 := K4s.blk (by omega) hR13
 have hT16 := K4s.blk (by omega) hT13
 have D16 := K4s.blk (by omega) D13
 have K16 := K13.newB K4s (fun j q => .inl q)
 have hown16 := hown13.free (G := F) prFree (fun g hg => K4s.block g (hown13.ge g hg).2 (fun e => by have := (hown13.ge g hg).1; omega))
 clear hQ13 hR13 D13 K13 hown13 hw13 K4s hb4 hb16 hs16 q0 q1 qf0 qf1 d0 d1
 generalize w13.setCell ⟨b, 1, none⟩ (.bool false) = w16 at *
 (have p0 := bC (hQ16) 0; have pf0 := bF (hQ16) 0; have p1 := bC (hQ16) 1; have pf1 := bF (hQ16) 1; have p2 := bC (hQ16) 2; have pf2 := bF (hQ16) 2; have p3 := bC (hQ16) 3; have pf3 := bF (hQ16) 3; have p4 := bC (hQ16) 4; have pf4 := bF (hQ16) 4; have p5 := bC (hQ16) 5; have pf5 := bF (hQ16) 5; have p6 := bC (hQ16) 6; have pf6 := bF (hQ16) 6)
 (have d0 := bC (D16) 0; have d1 := bC (D16) 1)
 have hzg := blk_lt hQ16
 have hzd := blk_lt D16
 go_wp2_with (first | (at_builtin; refine wpList_pushAt rfl _ _ 73 rfl rdPr elAgg rfl (hown16.ext ((Ext.refl w16).alloc _)) rfl (heap_alloc_new w16 _) (y := (1, 0)) rfl (by decide) (by decide) (by simp; omega) ?_; intro v16 w17 hown17 hg17 hat17; obtain ⟨Ao16, co16, hvo, -⟩ := hown17.shut (F := F) (fun k q => by have := hF k q; omega); have hvo2 : v16 = .slice Ao16 1 co16 := hvo; clear hvo; subst hvo2; have kg := (((Ext.refl w16).alloc (.cells #[.int .i64 1, .int .i64 0] 274)).keep (fun q => w.heap.size + 3 ≤ q)).trans (Keep.of_grown hg17 (fun j hj _ => (hown16.ge j hj).1)); have hQ17 := kg.blk (by omega) hQ16; (have z0 := bC (hQ17) 0; have zf0 := bF (hQ17) 0; have z1 := bC (hQ17) 1; have zf1 := bF (hQ17) 1; have z2 := bC (hQ17) 2; have zf2 := bF (hQ17) 2; have z3 := bC (hQ17) 3; have zf3 := bF (hQ17) 3; have z4 := bC (hQ17) 4; have zf4 := bF (hQ17) 4; have z5 := bC (hQ17) 5; have zf5 := bF (hQ17) 5; have z6 := bC (hQ17) 6; have zf6 := bF (hQ17) 6)))
 have hR17 := kg.blk (by omega) hR16
 have hT17 := kg.blk (by omega) hT16
 have hw17 := words_keep hw16 kg (fun i q => .inr (by omega)) (by omega)
 have K17 := K16.newB kg (fun j q => .inr (by omega))
 have KS := kS1 w17 (w.heap.size + 1 + 1) 6 (.slice Ao16 1 co16)
 have hQn := bS hQ17 6 (.slice Ao16 1 co16)
 have hR20 := KS.blk (by omega) hR17
 have hT20 := KS.blk (by omega) hT17
 have hw20 := words_keep hw17 KS (fun i q => .inr (by omega)) (by omega)
 have K20 := K17.newB KS (fun j q => .inr (by omega))
 have hown20 := own_set (g := w.heap.size + 1 + 1) (j := 6) (u := (.slice Ao16 1 co16)) prFree hown17 (by omega)
 clear p0 pf0 p1 pf1 p2 pf2 p3 pf3 p4 pf4 p5 pf5 p6 pf6
 clear z0 zf0 z1 zf1 z2 zf2 z3 zf3 z4 zf4 z5 zf5 z6 zf6
 clear hQ16 hR16 hw16 K16 hown16 D16 hQ17 hR17 hw17 K17 KS kg hg17 hat17 hown17 d0 d1 hzg hzd
 generalize w17.setCell ⟨w.heap.size + 1 + 1, 6, none⟩ (.slice Ao16 1 co16) = w20 at *
 (have p0 := bC (hQn) 0; have pf0 := bF (hQn) 0; have p1 := bC (hQn) 1; have pf1 := bF (hQn) 1; have p2 := bC (hQn) 2; have pf2 := bF (hQn) 2; have p3 := bC (hQn) 3; have pf3 := bF (hQn) 3; have p4 := bC (hQn) 4; have pf4 := bF (hQn) 4; have p5 := bC (hQn) 5; have pf5 := bF (hQn) 5; have p6 := bC (hQn) 6; have pf6 := bF (hQn) 6)
 obtain ⟨A20, c20, hb20, -⟩ := id hw20
 (have q0 := bC (hb20) 0; have qf0 := bF (hb20) 0; have q1 := bC (hb20) 1; have qf1 := bF (hb20) 1)
 rw [rounds_succ]
 go_wp2_with (fail)
 refine (nextC _ b sumC [oneB] w20 hw20 (by decide)).mono ?_; rintro e w21 ⟨rfl, hw21, k21⟩
 have hQ21 := k21.blk (by omega) hQn
 have hR21 := k21.blk (by omega) hR20
 have hT21 := k21.blk (by omega) hT20
 have K21 := K20.newB k21 (fun j q => .inl q)
 have hown21 := hown20.free (G := F) prFree (fun g hg => k21.block g (hown20.ge g hg).2 (fun e => by have := (hown20.ge g hg).1; omega))
 have hz21 := blk_lt hQ21
 clear p0 pf0 p1 pf1 p2 pf2 p3 pf3 p4 pf4 p5 pf5 p6 pf6
 clear q0 q1 qf0 qf1 hb20 hQn hR20 hT20 K20 hown20 k21 hw20
 go_wp2_with (fail)
 refine (amongSum _ _ _ _ (bN w21 _)).mono ?_; rintro e w22 ⟨rfl, hE22⟩
 have x22 : Ext w21 w22 := Ext.trans ((Ext.refl w21).alloc _) hE22
 have D23 := bN w22 (.cells #[.int .i64 2, .int .i64 0] 274)
 have x23 := x22.alloc (.cells #[.int .i64 2, .int .i64 0] 274)
 go_upto_region 13 with (fail)
 have hQ23 := x23.blk hQ21
 have hR23 := x23.blk hR21
 have hT23 := x23.blk hT21
 have hw23 := words_ext hw21 x23
 have K23 := K21.post x23
 have hown23 := hown21.ext x23
 have hzb := x22.size
 obtain ⟨ag, hag⟩ : ∃ ag, w22.heap.size = ag := ⟨_, rfl⟩
 rw [hag] at D23 hzb ⊢
 have hagl : w.heap.size + 3 ≤ ag := by omega
 have hagn : ∀ g, (Value.slice Ao16 1 co16).ownBlock = some g → ¬ ag = g := fun g hg e => by have := (hown21.ge g hg).2; omega
 clear hQ21 hR21 hT21 hw21 K21 hown21 x22 x23 hE22 hag hzb hz21
 generalize w22.alloc (.cells #[.int .i64 2, .int .i64 0] 274) = w23 at *
 (have d0 := bC (D23) 0; have d1 := bC (D23) 1)
 (have s0 := bC (hT23) 0; have s1 := bC (hT23) 1; have s2 := bC (hT23) 2; have s3 := bC (hT23) 3)
 go_wp2_with (fail)
 refine (columnC _ b oneB 1 [] w23 hw23 (by decide) hs1 s hs2 (by decide) Ax cx s.keys s.mode s.grain).mono ?_; rintro e w24 ⟨rfl, hw24, k24⟩
 have hagb : ¬ ag = b := by omega
 have D24 := k24.blk hagb D23
 have hQ24 := k24.blk (by omega) hQ23
 have hR24 := k24.blk (by omega) hR23
 have K24 := K23.newB k24 (fun j q => .inl q)
 have hown24 := hown23.free (G := F) prFree (fun g hg => k24.block g (hown23.ge g hg).2 (fun e => by have := (hown23.ge g hg).1; omega))
 clear d0 d1 s0 s1 s2 s3 hQ23 hR23 hT23 hw23 K23 hown23 D23 k24
 (have d0 := bC (D24) 0; have df0 := bF (D24) 0; have d1 := bC (D24) 1; have df1 := bF (D24) 1)
 go_upto_region 15 with (fail)
 have KS := kS1 w24 ag 1 (.int .i64 1)
 have D25 := bS D24 1 (.int .i64 1)
 have hQ25 := KS.blk (by omega) hQ24
 have hR25 := KS.blk (by omega) hR24
 have hw25 := words_keep hw24 KS (fun i q => .inr (by omega)) (by omega)
 have K25 := K24.newB KS (fun j q => .inr (by omega))
 have hown25 : rdPr.Own F (w.heap.size + 3) 274 (w24.setCell ⟨ag, 1, none⟩ (.int .i64 1)) (.slice Ao16 1 co16) _ := hown24.free (G := F) prFree (fun g hg => KS.block g (hown24.ge g hg).2 (fun q => hagn g hg q.symm))
 clear d0 df0 d1 df1
 clear hQ24 hR24 hw24 K24 hown24 D24 KS
 generalize w24.setCell ⟨ag, 1, none⟩ (.int .i64 1) = w25 at *
 (have d0 := bC (D25) 0; have d1 := bC (D25) 1)
 obtain ⟨A26, c26, hb26, hf26, hs26⟩ := id hw25
 (have q0 := bC (hb26) 0; have qf0 := bF (hb26) 0; have q1 := bC (hb26) 1; have qf1 := bF (hb26) 1)
 go_upto_region 16 with (fail)
 have K4s := kS1 w25 b 1 (.bool false)
 have hb4 := bS hb26 1 (.bool false)
 have hw26 : WordsAt (fun i => F i ∨ w.heap.size ≤ i) (w25.setCell ⟨b, 1, none⟩ (.bool false)) b [] := ⟨A26, c26, hb4, hf26, hs26.keep (K4s.mono (fun _ _ q => .inr q))⟩
 have hQ26 := K4s.blk (by omega) hQ25
 have hR26 := K4s.blk (by omega) hR25
 have D26 := K4s.blk (by omega) D25
 have K26 := K25.newB K4s (fun j q => .inl q)
 have hown26 := hown25.free (G := F) prFree (fun g hg => K4s.block g (hown25.ge g hg).2 (fun e => by have := (hown25.ge g hg).1; omega))
 clear hQ25 hR25 D25 K25 hown25 hw25 K4s hb4 hb26 hs26 q0 q1 qf0 qf1 d0 d1
 generalize w25.setCell ⟨b, 1, none⟩ (.bool false) = w26 at *
 (have p0 := bC (hQ26) 0; have pf0 := bF (hQ26) 0; have p1 := bC (hQ26) 1; have pf1 := bF (hQ26) 1; have p2 := bC (hQ26) 2; have pf2 := bF (hQ26) 2; have p3 := bC (hQ26) 3; have pf3 := bF (hQ26) 3; have p4 := bC (hQ26) 4; have pf4 := bF (hQ26) 4; have p5 := bC (hQ26) 5; have pf5 := bF (hQ26) 5; have p6 := bC (hQ26) 6; have pf6 := bF (hQ26) 6)
 (have d0 := bC (D26) 0; have d1 := bC (D26) 1)
 have hzg := blk_lt hQ26
 have hzd := blk_lt D26
 go_wp2_with (first | (at_builtin; refine wpList_pushAt rfl _ _ 73 rfl rdPr elAgg rfl (hown26.ext ((Ext.refl w26).alloc _)) rfl (heap_alloc_new w26 _) (y := (2, 1)) rfl (by decide) (by decide) (by simp; omega) ?_; intro v26 w27 hown27 hg27 hat27; obtain ⟨Ao26, co26, hvo, -⟩ := hown27.shut (F := F) (fun k q => by have := hF k q; omega); have hvo2 : v26 = .slice Ao26 2 co26 := hvo; clear hvo; subst hvo2; have kg := (((Ext.refl w26).alloc (.cells #[.int .i64 2, .int .i64 1] 274)).keep (fun q => w.heap.size + 3 ≤ q)).trans (Keep.of_grown hg27 (fun j hj _ => (hown26.ge j hj).1)); have hQ27 := kg.blk (by omega) hQ26; (have z0 := bC (hQ27) 0; have zf0 := bF (hQ27) 0; have z1 := bC (hQ27) 1; have zf1 := bF (hQ27) 1; have z2 := bC (hQ27) 2; have zf2 := bF (hQ27) 2; have z3 := bC (hQ27) 3; have zf3 := bF (hQ27) 3; have z4 := bC (hQ27) 4; have zf4 := bF (hQ27) 4; have z5 := bC (hQ27) 5; have zf5 := bF (hQ27) 5; have z6 := bC (hQ27) 6; have zf6 := bF (hQ27) 6)))
 have hR27 := kg.blk (by omega) hR26
 have hw27 := words_keep hw26 kg (fun i q => .inr (by omega)) (by omega)
 have K27 := K26.newB kg (fun j q => .inr (by omega))
 have KS := kS1 w27 (w.heap.size + 1 + 1) 6 (.slice Ao26 2 co26)
 have hQn := bS hQ27 6 (.slice Ao26 2 co26)
 have hR30 := KS.blk (by omega) hR27
 have hw30 := words_keep hw27 KS (fun i q => .inr (by omega)) (by omega)
 have K30 := K27.newB KS (fun j q => .inr (by omega))
 have hown30 := own_set (g := w.heap.size + 1 + 1) (j := 6) (u := (.slice Ao26 2 co26)) prFree hown27 (by omega)
 clear p0 pf0 p1 pf1 p2 pf2 p3 pf3 p4 pf4 p5 pf5 p6 pf6
 clear z0 zf0 z1 zf1 z2 zf2 z3 zf3 z4 zf4 z5 zf5 z6 zf6
 clear hQ26 hR26 hw26 K26 hown26 D26 hQ27 hR27 hw27 K27 KS kg hg27 hat27 hown27 d0 d1 hzg hzd
 generalize w27.setCell ⟨w.heap.size + 1 + 1, 6, none⟩ (.slice Ao26 2 co26) = w30 at *
 (have p0 := bC (hQn) 0; have pf0 := bF (hQn) 0; have p1 := bC (hQn) 1; have pf1 := bF (hQn) 1; have p2 := bC (hQn) 2; have pf2 := bF (hQn) 2; have p3 := bC (hQn) 3; have pf3 := bF (hQn) 3; have p4 := bC (hQn) 4; have pf4 := bF (hQn) 4; have p5 := bC (hQn) 5; have pf5 := bF (hQn) 5; have p6 := bC (hQn) 6; have pf6 := bF (hQn) 6)
 obtain ⟨A30, c30, hb30, -⟩ := id hw30
 (have q0 := bC (hb30) 0; have qf0 := bF (hb30) 0; have q1 := bC (hb30) 1; have qf1 := bF (hb30) 1)
 have P := put7 hR30 (.bool false) (.bool false) (.slice none 0 0) (.slice none 0 0) (.bool true) (.slice none 0 0) (.slice Ao26 2 co26)
 rw [rounds_succ]
 (have r0 := bC (hR30) 0; have rf0 := bF (hR30) 0; have r1 := bC (hR30) 1; have rf1 := bF (hR30) 1; have r2 := bC (hR30) 2; have rf2 := bF (hR30) 2; have r3 := bC (hR30) 3; have rf3 := bF (hR30) 3; have r4 := bC (hR30) 4; have rf4 := bF (hR30) 4; have r5 := bC (hR30) 5; have rf5 := bF (hR30) 5; have r6 := bC (hR30) 6; have rf6 := bF (hR30) 6)
 go_wp2_with (fail)
 have hwf := words_keep hw30 P.2 (fun i q => .inr (by omega)) (by omega)
 have KF := K30.newB P.2 (fun j q => .inr (by omega))
 have hownf := hown30.free (G := F) prFree (fun g hg => P.2.block g (hown30.ge g hg).2 (fun e => by have := (hown30.ge g hg).1; omega))
 obtain ⟨Aq, cq, hvq, hsq⟩ := hownf.shut (F := F) (fun k q => by have := hF k q; omega)
 have hvq2 : Value.slice Ao26 2 co26 = .slice Aq 2 cq := hvq
 obtain ⟨rfl, rfl⟩ : Ao26 = Aq ∧ co26 = cq := by simpa using hvq2
 have e0 := bC P.1 0
 have e1 := bC P.1 1
 have e2 := bC P.1 2
 have e3 := bC P.1 3
 have e4 := bC P.1 4
 have e5 := bC P.1 5
 have e6 := bC P.1 6
 refine bodyPost_ret (v := .agg #[.bool false, .bool false, .slice none 0 0, .slice none 0 0, .bool true, .slice none 0 0, .slice Ao26 2 co26]) (by simp [results, Tryz.results193, go_sem, e0, e1, e2, e3, e4, e5, e6]) rfl ?_
 exact ⟨Ao26, co26, rfl, hsq, words_narrow hwf (fun i _ q => .inl q), KF⟩
end K121
namespace K116
open Go Go.RowKit
open KB KB2 K1 K2 K115
abbrev fSingle : Value := .func (.func 296) #[] #[]
abbrev fAs : Value := .func (.func 298) #[] #[]
abbrev fPlus : Value := .func (.func 297) #[] #[]
abbrev cellV (n : Int) : Value := .agg #[.bool true, .int .i64 n, .string emp]
theorem singleC (n : Int) (w : World) : Calls Tryz.prog 296 #[valV (n, emp)] w fun e w' => e = .returned (valV (1, emp)) ∧ Ext w w' := by
 have B := bN (w.alloc (.cells #[.int .i64 n, .string emp] 33)) (.cells #[.int .i64 1, .string emp] 33)
 simp only [World.size_alloc] at B
 (have p0 := bC (B) 0; have p1 := bC (B) 1)
 go_enter Tryz.func296, Tryz.ntmps296
 go_wp2_with (fail)
 refine bodyPost_ret (v := valV (1, emp)) (by simp [results, Tryz.results296, go_sem, p0, p1]) rfl ?_
 exact ⟨rfl, XE⟩
theorem asC (n : Int) (w : World) : Calls Tryz.prog 298 #[valV (n, emp)] w fun e w' => e = .returned (valV (n, emp)) ∧ Ext w w' := by
 have B0 := bN w (.cells #[.int .i64 n, .string emp] 33)
 have B := bN (w.alloc (.cells #[.int .i64 n, .string emp] 33)) (.cells #[.int .i64 n, .string emp] 33)
 have B1 := bO2 (o' := .cells #[.int .i64 n, .string emp] 33) B0
 simp only [World.size_alloc] at B
 (have q0 := bC (B0) 0; have q1 := bC (B0) 1)
 (have r0 := bC (B1) 0; have r1 := bC (B1) 1)
 (have p0 := bC (B) 0; have p1 := bC (B) 1)
 go_enter Tryz.func298, Tryz.ntmps298
 go_wp2_with (fail)
 refine bodyPost_ret (v := valV (n, emp)) (by simp [results, Tryz.results298, go_sem, p0, p1]) rfl ?_
 exact ⟨rfl, XE⟩
theorem plusC (t x y : Int) (w : World) : Calls Tryz.prog 297 #[.int .i64 t, valV (x, emp), valV (y, emp)] w fun e w' => e = .returned (valV (wrap64 (x + y), emp)) ∧ Ext w w' := by
 have B0 := bO2 (o' := .cells #[.int .i64 0, .string emp] 33) (bO2 (o' := .cells #[.int .i64 y, .string emp] 33) (bN w (.cells #[.int .i64 x, .string emp] 33)))
 have B1 := bO2 (o' := .cells #[.int .i64 0, .string emp] 33) (bN (w.alloc (.cells #[.int .i64 x, .string emp] 33)) (.cells #[.int .i64 y, .string emp] 33))
 have B2 := bN ((w.alloc (.cells #[.int .i64 x, .string emp] 33)).alloc (.cells #[.int .i64 y, .string emp] 33)) (.cells #[.int .i64 0, .string emp] 33)
 have hE := (((Ext.refl w).alloc (.cells #[.int .i64 x, .string emp] 33)).alloc (.cells #[.int .i64 y, .string emp] 33)).alloc (.cells #[.int .i64 0, .string emp] 33)
 simp only [World.size_alloc] at B1 B2
 go_enter Tryz.func297, Tryz.ntmps297
 go_upto_region 1 with (fail)
 generalize (((w.alloc (.cells #[.int .i64 x, .string emp] 33)).alloc (.cells #[.int .i64 y, .string emp] 33)).alloc (.cells #[.int .i64 0, .string emp] 33)) = w1 at *
 (have p0 := bC (B0) 0; have p1 := bC (B0) 1)
 (have q0 := bC (B1) 0; have q1 := bC (B1) 1)
 (have r0 := bC (B2) 0; have rf0 := bF (B2) 0; have r1 := bC (B2) 1; have rf1 := bF (B2) 1)
 have B3 := bS (bS B2 0 (.int .i64 (wrap64 (x + y)))) 1 (.string emp)
 have hE2 := (hE.setCell (a := ⟨w.heap.size + 1 + 1, 0, none⟩) (by simp; omega) (.int .i64 (wrap64 (x + y)))).setCell (a := ⟨w.heap.size + 1 + 1, 1, none⟩) (by simp; omega) (.string emp)
 have e0 := bC B3 0
 have e1 := bC B3 1
 clear B0 B1 B2 B3
 go_wp2_with (fail)
 (try simp only [Exit.inBlock, Exit.then])
 refine bodyPost_ret (v := valV (wrap64 (x + y), emp)) (by simp [results, Tryz.results297, go_sem, e0, e1]) rfl ?_
 exact ⟨rfl, hE2⟩
theorem bothC (fn : Value) (t x y : Int) (w : World) : Calls Tryz.prog 219 #[.agg #[.bool true, .int .i64 0, .string emp, fn, fPlus], .int .i64 t, cellV x, cellV y] w fun e w' => e = .returned (cellV (wrap64 (x + y))) ∧ Ext w w' := by
 have B0 := bO2 (o' := .cells #[.bool false, .int .i64 0, .string emp] 35) (bO2 (o' := .cells #[.bool true, .int .i64 y, .string emp] 35) (bO2 (o' := .cells #[.bool true, .int .i64 x, .string emp] 35) (bN w (.cells #[.bool true, .int .i64 0, .string emp, fn, fPlus] 300))))
 have B1 := bO2 (o' := .cells #[.bool false, .int .i64 0, .string emp] 35) (bO2 (o' := .cells #[.bool true, .int .i64 y, .string emp] 35) (bN (w.alloc (.cells #[.bool true, .int .i64 0, .string emp, fn, fPlus] 300)) (.cells #[.bool true, .int .i64 x, .string emp] 35)))
 have B2 := bO2 (o' := .cells #[.bool false, .int .i64 0, .string emp] 35) (bN ((w.alloc (.cells #[.bool true, .int .i64 0, .string emp, fn, fPlus] 300)).alloc (.cells #[.bool true, .int .i64 x, .string emp] 35)) (.cells #[.bool true, .int .i64 y, .string emp] 35))
 have B3 := bN (((w.alloc (.cells #[.bool true, .int .i64 0, .string emp, fn, fPlus] 300)).alloc (.cells #[.bool true, .int .i64 x, .string emp] 35)).alloc (.cells #[.bool true, .int .i64 y, .string emp] 35)) (.cells #[.bool false, .int .i64 0, .string emp] 35)
 have hE := ((((Ext.refl w).alloc (.cells #[.bool true, .int .i64 0, .string emp, fn, fPlus] 300)).alloc (.cells #[.bool true, .int .i64 x, .string emp] 35)).alloc (.cells #[.bool true, .int .i64 y, .string emp] 35)).alloc (.cells #[.bool false, .int .i64 0, .string emp] 35)
 simp only [World.size_alloc] at B1 B2 B3
 go_enter Tryz.func219, Tryz.ntmps219
 go_upto_region 1 with (fail)
 generalize ((((w.alloc (.cells #[.bool true, .int .i64 0, .string emp, fn, fPlus] 300)).alloc (.cells #[.bool true, .int .i64 x, .string emp] 35)).alloc (.cells #[.bool true, .int .i64 y, .string emp] 35)).alloc (.cells #[.bool false, .int .i64 0, .string emp] 35)) = w1 at *
 (have p0 := bC (B0) 0; have p1 := bC (B0) 1; have p2 := bC (B0) 2; have p3 := bC (B0) 3; have p4 := bC (B0) 4)
 (have q0 := bC (B1) 0; have q1 := bC (B1) 1; have q2 := bC (B1) 2)
 (have s0 := bC (B2) 0; have s1 := bC (B2) 1; have s2 := bC (B2) 2)
 go_wp2_with (fail)
 refine (plusC t x y w1).mono ?_; rintro e w2 ⟨rfl, hE2⟩
 have B4 := hE2.blk B3
 (have r0 := bC (B4) 0; have rf0 := bF (B4) 0; have r1 := bC (B4) 1; have rf1 := bF (B4) 1; have r2 := bC (B4) 2; have rf2 := bF (B4) 2)
 have B5 := bS (bS (bS B4 0 (.bool true)) 1 (.int .i64 (wrap64 (x + y)))) 2 (.string emp)
 have hE3 := (((hE.trans hE2).setCell (a := ⟨w.heap.size + 1 + 1 + 1, 0, none⟩) (by simp; omega) (.bool true)).setCell (a := ⟨w.heap.size + 1 + 1 + 1, 1, none⟩) (by simp; omega) (.int .i64 (wrap64 (x + y)))).setCell (a := ⟨w.heap.size + 1 + 1 + 1, 2, none⟩) (by simp; omega) (.string emp)
 have e0 := bC B5 0
 have e1 := bC B5 1
 have e2 := bC B5 2
 clear B0 B1 B2 B3 B4 B5
 go_wp2_with (fail)
 (try simp only [Exit.inBlock, Exit.then])
 refine bodyPost_ret (v := cellV (wrap64 (x + y))) (by simp [results, Tryz.results219, go_sem, e0, e1, e2]) rfl ?_
 exact ⟨rfl, hE3⟩
end K116
namespace K117
open Go Go.RowKit
open KB KB2 K1 K2 K115 K116
abbrev cz : List Value := [.bool false, .int .i64 0, .string emp, .nilFunc, .nilFunc]
abbrev ways0 : Array Value := #[.bool false, .int .i64 0, .string emp, .nilFunc, .nilFunc, .bool true, .int .i64 0, .string emp, fSingle, fPlus, .bool true, .int .i64 0, .string emp, fAs, fPlus, .bool false, .int .i64 0, .string emp, fAs, .func (.func 299) #[] #[], .bool false, .int .i64 0, .string emp, fAs, .func (.func 300) #[] #[]]
abbrev waysZ : Array Value := #[.bool false, .int .i64 0, .string emp, .nilFunc, .nilFunc, .bool false, .int .i64 0, .string emp, .nilFunc, .nilFunc, .bool false, .int .i64 0, .string emp, .nilFunc, .nilFunc, .bool false, .int .i64 0, .string emp, .nilFunc, .nilFunc, .bool false, .int .i64 0, .string emp, .nilFunc, .nilFunc]
theorem ext_row {w W : World} (h : Ext w W) {g : Nat} (hg : w.heap.size ≤ g) (cs : Array Value) : Ext w (W.setRow g cs) :=
 ⟨h.os, h.tape, h.output, by rw [setRow_size]; exact h.size, fun k hk => (setRow_other W g k cs (by omega)).trans (h.block hk)⟩
theorem waysC (w : World) : Calls Tryz.prog 218 #[] w fun e w' => e = .returned (.agg ways0) ∧ Ext w w' := by
 obtain ⟨x, hx⟩ : ∃ x, w.heap.size = x := ⟨_, rfl⟩
 have B0 := bO2 (o' := .cells #[.bool true, .int .i64 0, .string emp] 35) (bN w (.cells waysZ 301))
 have B1 := bN (w.alloc (.cells waysZ 301)) (.cells #[.bool true, .int .i64 0, .string emp] 35)
 have hE := ((Ext.refl w).alloc (.cells waysZ 301)).alloc (.cells #[.bool true, .int .i64 0, .string emp] 35)
 simp only [World.size_alloc] at B1
 go_enter Tryz.func218, Tryz.ntmps218
 go_upto_region 2 with (fail)
 generalize ((w.alloc (.cells waysZ 301)).alloc (.cells #[.bool true, .int .i64 0, .string emp] 35)) = w1 at *
 rw [hx] at B0 B1
 (have p0 := bC (B1) 0; have p1 := bC (B1) 1; have p2 := bC (B1) 2)
 refine wp_region_lit ?_
 refine Go.Great.wpList_runTo rfl (some 3) rfl (.agg #[.bool true, .int .i64 0, .string emp]) w1 (by simp [execOp, go_sem, p0, p1, p2]) ?_
 simp only [Act.put, List.setIfInBounds_toArray, List.set_cons_succ, List.set_cons_zero]
 refine wpList_buildTo rfl 300 _ rfl (some 4) rfl #[.bool true, .int .i64 0, .string emp, fSingle, fPlus] (by kernel_rfl) ?_
 simp only [Act.put, List.setIfInBounds_toArray, List.set_cons_succ, List.set_cons_zero]
 refine Go.Great.wpList_runTo rfl (some 5) rfl (.agg #[.bool true, .int .i64 0, .string emp]) w1 (by simp [execOp, go_sem, p0, p1, p2]) ?_
 simp only [Act.put, List.setIfInBounds_toArray, List.set_cons_succ, List.set_cons_zero]
 refine wpList_buildTo rfl 300 _ rfl (some 6) rfl #[.bool true, .int .i64 0, .string emp, fAs, fPlus] (by kernel_rfl) ?_
 simp only [Act.put, List.setIfInBounds_toArray, List.set_cons_succ, List.set_cons_zero]
 refine wpList_buildTo rfl 35 _ rfl (some 7) rfl #[.bool false, .int .i64 0, .string emp] (by kernel_rfl) ?_
 simp only [Act.put, List.setIfInBounds_toArray, List.set_cons_succ, List.set_cons_zero]
 refine wpList_buildTo rfl 300 _ rfl (some 8) rfl #[.bool false, .int .i64 0, .string emp, fAs, .func (.func 299) #[] #[]] (by kernel_rfl) ?_
 simp only [Act.put, List.setIfInBounds_toArray, List.set_cons_succ, List.set_cons_zero]
 refine wpList_buildTo rfl 35 _ rfl (some 9) rfl #[.bool false, .int .i64 0, .string emp] (by kernel_rfl) ?_
 simp only [Act.put, List.setIfInBounds_toArray, List.set_cons_succ, List.set_cons_zero]
 refine wpList_buildTo rfl 300 _ rfl (some 10) rfl #[.bool false, .int .i64 0, .string emp, fAs, .func (.func 300) #[] #[]] (by kernel_rfl) ?_
 simp only [Act.put, List.setIfInBounds_toArray, List.set_cons_succ, List.set_cons_zero]
 refine wpList_buildTo rfl 301 _ rfl (some 11) rfl ways0 (by kernel_rfl) ?_
 simp only [Act.put, List.setIfInBounds_toArray, List.set_cons_succ, List.set_cons_zero]
 refine wpList_store_rowTo rfl 301 _ _ rfl rfl x ways0 rfl rfl 301 waysZ B0 (by kernel_rfl) rfl (by kernel_rfl) ?_
 have B2 := setRow_heap w1 x waysZ ways0 _ _ B0
 have hE2 := ext_row hE (Nat.le_of_eq hx) ways0
 generalize w1.setRow x ways0 = w2 at *
 clear B0 B1 p0 p1 p2
 generalize hV : Value.agg ways0 = vz
 go_wp2_with (fail)
 rw [← hV]
 refine bodyPost_ret (results_cell_row Tryz.results218 _ _ x _ ways0 _ _ rfl B2 Tryz.underlying301 rfl (by kernel_rfl)) rfl ?_
 exact ⟨rfl, hE2⟩
end K117
namespace KT
open Go
section
variable {P : Program} {ops : Array Oper} {Q : Exit → Act → World → Prop} {md : Region.Mode} {S : World → Prop} {n : Nat}
def Hd (P : Program) (md : Region.Mode) (ops : Array Oper) (Q : Exit → Act → World → Prop) (S : World → Prop) (n : Nat) : Nat → Array Bool → Act → World → Prop
 | 0, d, a, w => Region.ready md ops d = [] ∧ Q .normal a w
 | f + 1, d, a, w => (Region.ready md ops d = [] → Q .normal a w) ∧ ∀ i ∈ Region.ready md ops d, wpOp P ops Q i (fun a' w' => (i ≠ n → S w') ∧ Hd P md ops Q S n f (d.setIfInBounds i true) a' w') a w
theorem any_of_hd : ∀ (f : Nat) (d : Array Bool) (a : Act) (w : World), Hd P md ops Q S n f d a w → wpAny P md ops Q f d a w
 | 0, _, _, _, h => h
 | f + 1, _, _, _, h => ⟨h.1, fun i hi => wpOp_mono (fun a' w' h' => any_of_hd f _ a' w' h'.2) (h.2 i hi)⟩
theorem hd_first {i : Nat} {oi : Oper} {v : Value} (hi : ops[i]? = some oi) (hsel : Region.noSelect ops = true)
   (hs : Region.sinkB md ops n = true) (hc : Region.chainB md ops n = true) (hn : n < ops.size) (hin : i < n)
   (hQ : ∀ c a w, Q (.panic c) (a.put oi.dst v) w → Q (.panic c) a w) :
   ∀ (f : Nat) (d : Array Bool) (a : Act) (w : World), HeadInv md ops n d →
     (∀ j oj, ops[j]? = some oj → j ≠ i → d.getD j true = false → (∀ e ∈ oj.after, Region.binds md e = true → e.on ≠ i) → oi.apart ops oj = true) →
     i ∈ Region.ready md ops d → YieldsIf P ops S oi v a → S w →
     Hd P md ops Q S n f (d.setIfInBounds i true) (a.put oi.dst v) w → Hd P md ops Q S n (f + 1) d a w := by
 intro f
 induction f with
 | zero =>
   intro d a w _ _ hr hy hS H
   refine ⟨fun h => (by rw [h] at hr; cases hr), fun j hj => ?_⟩
   by_cases hji : j = i
   · subst hji; exact hy.wpOp hi hS ⟨fun _ => hS, H⟩
   · have := ready_mono hj hji
     rw [H.1] at this
     cases this
 | succ f ih =>
   intro d a w inv hfree hr hy hS H
   have hun := (mem_ready.1 hr).1
   refine ⟨fun h => (by rw [h] at hr; cases hr), fun j hj => ?_⟩
   have hjn : j < n := by
     rcases Nat.lt_or_ge j n with h | h
     · exact h
     · exact absurd hj (tail_waits hs hc hn inv _ i rfl hin hun j h)
   by_cases hji : j = i
   · subst hji; exact hy.wpOp hi hS ⟨fun _ => hS, H⟩
   · have h1 := H.2 j (ready_mono hj hji)
     obtain ⟨hjun, oj, hoj, hall⟩ := mem_ready.1 hj
     have hnot : ∀ e ∈ oj.after, Region.binds md e = true → e.on ≠ i := fun e he hb heq => by
       have h1 := hall e he hb
       rw [heq, getD_both hun] at h1
       cases h1
     have h2 := wpOp_putIf hoj (hfree j oj hoj hji hjun hnot) (fun cs b => Region.noSelect_spec hsel i oi cs b hi) (fun cs b => Region.noSelect_spec hsel j oj cs b hoj) hQ hy h1
     have hfree' : ∀ k ok, ops[k]? = some ok → k ≠ i → (d.setIfInBounds j true).getD k true = false →
         (∀ e ∈ ok.after, Region.binds md e = true → e.on ≠ i) → oi.apart ops ok = true := fun k ok hk hki hun hno => by
       refine hfree k ok hk hki ?_ hno
       by_cases hjk : j = k
       · subst hjk; exact hjun
       · rw [getD_set_ne true hjk] at hun; exact hun
     refine wpOp_mono (fun a' w' h3 => ⟨h3.2.1, ih (d.setIfInBounds j true) a' w' (inv.set hj hjn) hfree' (ready_mono hr (Ne.symm hji)) h3.1 (h3.2.1 (by omega)) ?_⟩) h2
     rw [Array.setIfInBounds_comm _ _ hji]
     exact h3.2.2
def Lx (P : Program) (md : Region.Mode) (ops : Array Oper) (Q : Exit → Act → World → Prop) (S : World → Prop) (n : Nat) (l : List Oper) (k : Nat) (d : Array Bool) (a : Act) (w : World) : Prop :=
 ops.toList.drop k = l → HeadInv md ops n d → Region.noSelect ops = true → Region.sinkB md ops n = true → Region.chainB md ops n = true → n < ops.size → S w → Hd P md ops Q S n l.length d a w
theorem drop_get {o : Oper} {l : List Oper} {k : Nat} (h : ops.toList.drop k = o :: l) : ops[k]? = some o ∧ ops.toList.drop (k + 1) = l := by
 have h1 : (ops.toList.drop k)[0]? = some o := by rw [h]; rfl
 rw [List.getElem?_drop] at h1
 refine ⟨by simpa using h1, ?_⟩
 have h2 : (ops.toList.drop k).drop 1 = l := by rw [h]; rfl
 rwa [List.drop_drop] at h2
theorem Lx.take {o : Oper} {l : List Oper} {k : Nat} {v : Value} {d : Array Bool} {a : Act} {w : World}
   (hb : ((Region.ready md ops d).contains k && Region.free md ops d k && decide (k < n)) = true)
   (hQ : ∀ c a w, Q (.panic c) (a.put o.dst v) w → Q (.panic c) a w)
   (hw : Region.wanted o (yielded ops a.tmps) = true) (hy : ∀ w, S w → (execOp a.eval o).run P w = .ok (.value v) w)
   (h : Lx P md ops Q S n l (k + 1) (d.setIfInBounds k true) (a.put o.dst v) w) : Lx P md ops Q S n (o :: l) k d a w := fun hd inv h1 h2 h3 h4 hS => by
 simp only [Bool.and_eq_true, decide_eq_true_eq] at hb
 obtain ⟨⟨hr, hf⟩, hk⟩ := hb
 obtain ⟨hi, hd'⟩ := drop_get hd
 have hr' : k ∈ Region.ready md ops d := by simpa using hr
 exact hd_first hi h1 h2 h3 h4 hk hQ l.length d a w inv (Region.free_spec hi hf) hr' (.inl ⟨hw, hy⟩) hS (h hd' (inv.set hr' hk) h1 h2 h3 h4 hS)
theorem Lx.step {o : Oper} {l : List Oper} {k : Nat} {d : Array Bool} {a : Act} {w : World}
   (hb : (decide (Region.ready md ops d = [k]) && decide (k < n)) = true)
   (h : ∀ K : Act → World → Prop, Shut (∀ a w, S w → Lx P md ops Q S n l (k + 1) (d.setIfInBounds k true) a w → K a w) → if Region.wanted o (yielded ops a.tmps) = true then Oper.wp P o a w K Q else K (a.put o.dst undef) w) : Lx P md ops Q S n (o :: l) k d a w := fun hd inv h1 h2 h3 h4 hS => by
 simp only [Bool.and_eq_true, decide_eq_true_eq] at hb
 obtain ⟨hr, hk⟩ := hb
 obtain ⟨hi, hd'⟩ := drop_get hd
 refine ⟨fun h0 => (by rw [h0] at hr; cases hr), fun j hj => ?_⟩
 have hjk : j = k := by rw [hr] at hj; simpa using hj
 subst hjk
 exact wpOp_step hi (fun K' hK => h K' (fun a w hS hL => hK a w ⟨fun _ => hS, hL hd' (inv.set hj hk) h1 h2 h3 h4 hS⟩))
theorem Lx.last {o : Oper} {k : Nat} {d : Array Bool} {a : Act} {w : World}
   (hb : (decide (Region.ready md ops d = [k]) && decide (k = n) && decide (Region.ready md ops (d.setIfInBounds k true) = [])) = true)
   (h : ∀ K : Act → World → Prop, Shut (∀ a w, Q .normal a w → K a w) → if Region.wanted o (yielded ops a.tmps) = true then Oper.wp P o a w K Q else K (a.put o.dst undef) w) : Lx P md ops Q S n [o] k d a w := fun hd inv h1 h2 h3 h4 hS => by
 simp only [Bool.and_eq_true, decide_eq_true_eq] at hb
 obtain ⟨⟨hr, hk⟩, hr2⟩ := hb
 obtain ⟨hi, hd'⟩ := drop_get hd
 refine ⟨fun h0 => (by rw [h0] at hr; cases hr), fun j hj => ?_⟩
 have hjk : j = k := by rw [hr] at hj; simpa using hj
 subst hjk
 exact wpOp_step hi (fun K' hK => h K' (fun a w hQ => hK a w ⟨fun h => absurd hk h, hr2, hQ⟩))
theorem wp_lx {id : Nat} {l : List Oper} {a : Act} {w : World} (S : World → Prop) (n N : Nat) (hN : l.toArray.size = N) (hm : P.follows .mixedOrders = true)
   (hb : (Region.noSelect l.toArray && Region.sinkB .any l.toArray n && Region.chainB .any l.toArray n && decide (n < l.toArray.size)) = true) (hS : S w.drew)
   (h : Lx P .any l.toArray Q S n l 0 (Array.replicate N false) a w.drew) : (Code.region id l.toArray true).wp P Q a w := by
 simp only [Bool.and_eq_true, decide_eq_true_eq] at hb
 obtain ⟨⟨⟨h1, h2⟩, h3⟩, h4⟩ := hb
 subst hN
 have inv0 : HeadInv .any l.toArray n (Array.replicate l.toArray.size false) :=
   ⟨by simp, fun j oj _ hl => (by rw [getD_replicate_false] at hl; cases hl), fun t _ ht => getD_in (by simpa using ht) (getD_replicate_false _ _)⟩
 have H := h (by simp) inv0 h1 h2 h3 h4 hS
 exact wp_region_any hm (any_of_hd _ _ _ _ (by simpa using H))
end
end KT
end Go.Proofs.YtbjeejimedhniaaGreatDoor
