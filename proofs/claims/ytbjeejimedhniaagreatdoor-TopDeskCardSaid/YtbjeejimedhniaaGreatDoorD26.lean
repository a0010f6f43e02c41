/- Contracts of the program's functions, as the walks of the law use them. -/
import Derived.Test.YtbjeejimedhniaaGreatDoorD25
import Derived.WalkMore
import Derived.Test.YtbjeejimedhniaaGreatDoorD18
import Derived.Test.YtbjeejimedhniaaGreatDoorD20
import Derived.Test.YtbjeejimedhniaaGreatDoorD17
import Derived.Test.YtbjeejimedhniaaGreatDoorD10
import Derived.BigRegion
import Derived.RegionTactic
set_option linter.unusedVariables false
set_option linter.unusedSimpArgs false
set_option maxRecDepth 100000
set_option maxHeartbeats 2000000
namespace Go.Proofs.YtbjeejimedhniaaGreatDoor
namespace K78
open Go Go.RowKit
open KB KB2 KB3 K1 K6 K7 K8 K9 K22 K24 K25 K28 K31 K76 K77
theorem recAdd_pos (n : Nat) : 0 < (recAdd n).length := by simp only [recAdd, frame]; simp [bodyAdd]; omega
theorem adds_cat {j n : Nat} (h : j ≤ n) : ∃ r, adds n = adds j ++ r ∧ (j < n → ∃ r', r = recAdd j ++ r') := by
 induction n with
 | zero => obtain rfl : j = 0 := by omega
           exact ⟨[], by simp, fun h => absurd h (by omega)⟩
 | succ m ih =>
   by_cases q : j = m + 1
   · subst q
     exact ⟨[], by simp, fun h => absurd h (by omega)⟩
   · obtain ⟨r, h1, h2⟩ := ih (by omega)
     refine ⟨r ++ recAdd m, by rw [adds_succ, h1, List.append_assoc], fun _ => ?_⟩
     by_cases q2 : j = m
     · subst q2
       obtain rfl : r = [] := by
         have := congrArg List.length h1
         rw [List.length_append] at this
         exact List.eq_nil_of_length_eq_zero (by omega)
       exact ⟨[], by simp⟩
     · obtain ⟨r', h3⟩ := h2 (by omega)
       exact ⟨r' ++ recAdd m, by rw [h3, List.append_assoc]⟩
def At78 (F : Nat → Prop) (s : Sch) (n : Nat) (x : Nat) (at_ : Nat) (w : World) : Prop :=
 (at_ = 0 ∧ w.heap[x + 1]? = some (.cells #[.slice none 0 0, .int .i64 0, .int .i64 0, .int .i64 0, .slice none 0 0, .int .i64 0] 82)) ∨
 ∃ (j : Nat) (As : Option Addr) (cs : Nat) (Ai : Option Addr) (ci : Nat), j ≤ n ∧ at_ = (recHead s [] 0).length + (adds j).length ∧ SchAt F w As cs s ∧ (rdInt .i64).Sl F w Ai ci (idsTo j) ∧ w.heap[x + 1]? = some (.cells #[.slice As s.types.length cs, .int .i64 s.keys, .int .i64 s.mode, .int .i64 s.grain, .slice Ai (idsTo j).length ci, .int .i64 j] 82)
theorem allRC (F : Nat → Prop) (A : Option Addr) (c : Nat) (s : Sch) (hs : s.Ok) (n : Nat) (hn : n ≤ 40) (b : List Int) (hb : b = recHead s [] 0 ++ adds n) (w : World) (hA : rdU8.Sl F w A c b) (hbl : b.length ≤ 100000) (hF : ∀ k, F k → k < w.heap.size) :
   Calls Tryz.prog 169 #[.slice A b.length c] w fun e w' => ∃ As cs Ai ci, e = .returned (.tuple #[stV As cs s Ai ci (idsTo n) n, .int .i64 b.length, .bool true]) ∧ SchAt F w' As cs s ∧ (rdInt .i64).Sl F w' Ai ci (idsTo n) ∧ Ext w w' := by
 obtain ⟨x, hx⟩ : ∃ x, w.heap.size = x := ⟨_, rfl⟩
 have hE1 := ((Ext.refl w).alloc (.cells #[.slice none 0 0, .int .i64 0, .int .i64 0, .int .i64 0, .slice none 0 0, .int .i64 0] 82)).alloc (.cells #[.slice none 0 0, .int .i64 0, .int .i64 0, .int .i64 0, .slice none 0 0, .int .i64 0] 82)
 have B1 := bO2 (o' := .cells #[.slice none 0 0, .int .i64 0, .int .i64 0, .int .i64 0, .slice none 0 0, .int .i64 0] 82) (bN w (.cells #[.slice none 0 0, .int .i64 0, .int .i64 0, .int .i64 0, .slice none 0 0, .int .i64 0] 82))
 have B2 := bN (w.alloc (.cells #[.slice none 0 0, .int .i64 0, .int .i64 0, .int .i64 0, .slice none 0 0, .int .i64 0] 82)) (.cells #[.slice none 0 0, .int .i64 0, .int .i64 0, .int .i64 0, .slice none 0 0, .int .i64 0] 82)
 rw [World.size_alloc, hx] at B2
 rw [hx] at B1
 go_enter Tryz.func169, Tryz.ntmps169
 go_wp2_with (fail)
 go_step3
 go_wp2_with (fail)
 generalize (w.alloc (.cells #[.slice none 0 0, .int .i64 0, .int .i64 0, .int .i64 0, .slice none 0 0, .int .i64 0] 82)).alloc (.cells #[.slice none 0 0, .int .i64 0, .int .i64 0, .int .i64 0, .slice none 0 0, .int .i64 0] 82) = w1 at *
 go_step3
 go_wp2_with (fail)
 have hwx : w.heap.size ≤ x := Nat.le_of_eq hx
 have hF1 : ∀ k, F k → k < x := fun k q => by have := hF k q; omega
 replace hA := (Rd.Sl.narrow (G := fun k => F k ∨ k = x ∨ k = x + 1) (by decide) hA (fun k q r => r.elim id (fun r => by omega))).ext hE1
 have hb0 : (recHead s [] 0).length + (adds n).length = b.length := by rw [hb, List.length_append]
 have HB := As.mk hb
 have HBL := As.mk hb0
 have hRH : As (0 < (recHead s [] 0).length) := ⟨by simp only [recHead, frame]; simp [bodyHead]; omega⟩
 clear hb hb0
 obtain ⟨L, hL⟩ : ∃ L, b.length = L := ⟨_, rfl⟩
 rw [hL] at hbl HBL
 have HL := As.mk hL
 clear hL
 rw [HL.out]
 go_loopw [6] (fun i wr => ∃ at_ : Nat, i = .int .i64 at_ ∧ at_ ≤ L ∧ At78 (fun k => F k ∨ k = x ∨ k = x + 1) s n x at_ wr ∧ Keep (fun k => k = x + 1) w1 wr) (fun i _ => L - (intOf i).toNat)
 case atStart => exact ⟨0, by go_num, Nat.zero_le _, .inl ⟨rfl, B2⟩, Keep.refl _ _⟩
 case round =>
   obtain ⟨at_, rfl, hal, hat, hk⟩ := hrel
   have hs1 : x + 1 < w1.heap.size := blk_lt B2
   have hsz := hk.size
   have hxr : x + 1 < wr.heap.size := by omega
   have hAr := hA.keep (hk.mono (fun k _ q => .inr (.inr q)))
   have C1 := hk.blk (by omega : ¬ x = x + 1) B1
   by_cases hlt : at_ < L
   · obtain ⟨l, hl⟩ : ∃ l, l = b.drop at_ := ⟨_, rfl⟩
     have hll : l.length = L - at_ := by rw [hl, List.length_drop, HL.out]
     obtain ⟨A1, hsl1, hS1⟩ := hAr.suf elU8 at_ l.length at_ (by rw [HL.out]; exact hal) rfl (by rw [HL.out, hll])
     rw [← hl] at hS1
     rw [HL.out] at hsl1
     have hFr : ∀ k, (F k ∨ k = x ∨ k = x + 1) → k < wr.heap.size := fun k q => q.elim (fun q => by have := hF1 k q; omega) (fun q => by omega)
     have HLL := As.mk hll
     rcases hat with ⟨rfl, hB⟩ | ⟨j, As2, cs2, Ai2, ci2, hj, hat, hs2, hi2, hB⟩
     · have ht := fun W hW => takeHeadC (fun k => F k ∨ k = x ∨ k = x + 1) A c s hs [] (by simp) (by simp) 0 (by omega) (adds n) b HB.out W hW (by rw [HL.out]; omega)
       rw [HL.out] at ht
       clear hl hll hsl1 hS1
       go_wp2_with (fail)
       refine (ht wr hAr hFr).mono ?_; rintro e w2 ⟨As2, cs2, Ai2, ci2, rfl, hs2, hi2, hE2⟩
       have B3 := bN w2 (.cells #[.int .i64 1, .slice As2 s.types.length cs2, .int .i64 s.keys, .int .i64 s.mode, .int .i64 s.grain, .slice Ai2 0 ci2, .int .i64 0] 92)
       have hE3 := (Ext.refl w2).alloc (.cells #[.int .i64 1, .slice As2 s.types.length cs2, .int .i64 s.keys, .int .i64 s.mode, .int .i64 s.grain, .slice Ai2 0 ci2, .int .i64 0] 92)
       have hxw2 : x + 1 < w2.heap.size := by have := hE2.size; omega
       obtain ⟨y, hy⟩ : ∃ y, w2.heap.size = y := ⟨_, rfl⟩
       rw [hy] at B3
       have B4 := (hE2.trans hE3).blk hB
       (have r0 := bC (B3) 0; have r1 := bC (B3) 1; have r2 := bC (B3) 2; have r3 := bC (B3) 3; have r4 := bC (B3) 4; have r5 := bC (B3) 5; have r6 := bC (B3) 6)
       (have q0 := bC (B4) 0; have q1 := bC (B4) 1; have q2 := bC (B4) 2; have q3 := bC (B4) 3; have q4 := bC (B4) 4; have q5 := bC (B4) 5)
       rw [← hy] at r0 r1 r2 r3 r4 r5 r6
       go_wp2_with (fail)
       generalize (w2.alloc (.cells #[.int .i64 1, .slice As2 s.types.length cs2, .int .i64 s.keys, .int .i64 s.mode, .int .i64 s.grain, .slice Ai2 0 ci2, .int .i64 0] 92)) = w3 at *
       refine (applyHead0 (fun k => F k ∨ k = x ∨ k = x + 1) none none 0 0 ⟨[], 0, 0, 0⟩ [] 0 As2 Ai2 cs2 ci2 s hs 0 (by omega) w3 (Rd.Sl.ext hs2 hE3) (hi2.ext hE3) (FExt hFr (hE2.trans hE3))).mono ?_; rintro e w4 ⟨Ai4, ci4, rfl, hi4, hE4⟩
       have hE14 := (hE2.trans hE3).trans hE4
       have B5 := bN w4 (.cells #[.slice As2 s.types.length cs2, .int .i64 s.keys, .int .i64 s.mode, .int .i64 s.grain, .slice Ai4 0 ci4, .int .i64 0] 82)
       have hE5 := hE14.alloc (.cells #[.slice As2 s.types.length cs2, .int .i64 s.keys, .int .i64 s.mode, .int .i64 s.grain, .slice Ai4 0 ci4, .int .i64 0] 82)
       have hB5 := hE5.blk hB
       (have p0 := bC (B5) 0; have p1 := bC (B5) 1; have p2 := bC (B5) 2; have p3 := bC (B5) 3; have p4 := bC (B5) 4; have p5 := bC (B5) 5)
       (have z0 := bC (hB5) 0; have zf0 := bF (hB5) 0; have z1 := bC (hB5) 1; have zf1 := bF (hB5) 1; have z2 := bC (hB5) 2; have zf2 := bF (hB5) 2; have z3 := bC (hB5) 3; have zf3 := bF (hB5) 3; have z4 := bC (hB5) 4; have zf4 := bF (hB5) 4; have z5 := bC (hB5) 5; have zf5 := bF (hB5) 5)
       have nx : ¬ w4.heap.size = x + 1 := by have := hE14.size; omega
       have hwp : IntKind.i64.wrap ((recHead s [] 0).length : Int) = ((recHead s [] 0).length : Int) := by rw [IntKind.wrap_i64]; have := HBL.out; omega
       go_wp2_with (fail)
       have P := put6 hB5 (.slice As2 s.types.length cs2) (.int .i64 s.keys) (.int .i64 s.mode) (.int .i64 s.grain) (.slice Ai4 0 ci4) (.int .i64 0)
       go_roundw
       case rel => exact ⟨(recHead s [] 0).length, by go_num, by have := HBL.out; omega, .inr ⟨0, As2, cs2, Ai4, ci4, Nat.zero_le _, by simp [adds], (Rd.Sl.ext hs2 (hE3.trans (hE4.alloc _))).keep (P.2.mono (fun k _ q => .inr (.inr q))), (hi4.ext ((Ext.refl w4).alloc _)).keep (P.2.mono (fun k _ q => .inr (.inr q))), P.1⟩, hk.trans ((hE5.keep _).trans P.2)⟩
       case measure => have := hRH.out; have := HBL.out; simp [intOf] <;> omega
     · have hjn : j < n := by
         rcases Nat.lt_or_ge j n with q | q
         · exact q
         · obtain rfl : j = n := by omega
           have := HBL.out; omega
       obtain ⟨r, hr1, hr2⟩ := adds_cat hj
       obtain ⟨r', rfl⟩ := hr2 hjn
       have hl2 : l = recAdd j ++ r' := by
         rw [hl, HB.out, hr1, ← List.append_assoc]
         exact List.drop_left' (by rw [List.length_append, hat])
       have hrl : (recAdd j).length ≤ L - at_ := by rw [← hll, hl2, List.length_append]; omega
       have ht := fun W hW => takeAddC (fun k => F k ∨ k = x ∨ k = x + 1) A1 (c - at_) j (by omega) r' l hl2 W hW (by rw [hll]; omega)
       have hat0 : As (0 < at_ ∧ at_ = (recHead s [] 0).length + (adds j).length) := ⟨by have := hRH.out; omega, hat⟩
       clear hl hl2 hll hr1 hr2 hat
       have d0 : ((at_ : Int) == 0) = false := beq_eq_false_iff_ne.mpr (by have := hat0.out; omega)
       have HRL := As.mk hrl
       clear hrl
       go_wp2_with (fail)
       refine (ht wr hS1 hFr).mono ?_; rintro e w2 ⟨rfl, hE2⟩
       have B3 := bN w2 (.cells #[.int .i64 2, .slice none 0 0, .int .i64 0, .int .i64 0, .int .i64 0, .slice none 0 0, .int .i64 j] 92)
       have hE3 := (Ext.refl w2).alloc (.cells #[.int .i64 2, .slice none 0 0, .int .i64 0, .int .i64 0, .int .i64 0, .slice none 0 0, .int .i64 j] 92)
       have hxw2 : x + 1 < w2.heap.size := by have := hE2.size; omega
       obtain ⟨y, hy⟩ : ∃ y, w2.heap.size = y := ⟨_, rfl⟩
       rw [hy] at B3
       have B4 := (hE2.trans hE3).blk hB
       (have r0 := bC (B3) 0; have r1 := bC (B3) 1; have r2 := bC (B3) 2; have r3 := bC (B3) 3; have r4 := bC (B3) 4; have r5 := bC (B3) 5; have r6 := bC (B3) 6)
       (have q0 := bC (B4) 0; have q1 := bC (B4) 1; have q2 := bC (B4) 2; have q3 := bC (B4) 3; have q4 := bC (B4) 4; have q5 := bC (B4) 5)
       rw [← hy] at r0 r1 r2 r3 r4 r5 r6
       go_wp2_with (fail)
       generalize (w2.alloc (.cells #[.int .i64 2, .slice none 0 0, .int .i64 0, .int .i64 0, .int .i64 0, .slice none 0 0, .int .i64 j] 92)) = w3 at *
       refine (applyAddC (fun k => F k ∨ k = x ∨ k = x + 1) As2 Ai2 cs2 ci2 s (idsTo j) j j (by omega) (Int.le_refl _) (by rw [idsTo_len]; omega) w3 (hi2.ext (hE2.trans hE3)) (FExt hFr (hE2.trans hE3))).mono ?_; rintro e w4 ⟨Ai4, ci4, rfl, hi4, hE4⟩
       rw [← idsTo_succ] at hi4 ⊢
       have hE14 := (hE2.trans hE3).trans hE4
       have B5 := bN w4 (.cells #[.slice As2 s.types.length cs2, .int .i64 s.keys, .int .i64 s.mode, .int .i64 s.grain, .slice Ai4 (idsTo (j + 1)).length ci4, .int .i64 (j + 1)] 82)
       have hE5 := hE14.alloc (.cells #[.slice As2 s.types.length cs2, .int .i64 s.keys, .int .i64 s.mode, .int .i64 s.grain, .slice Ai4 (idsTo (j + 1)).length ci4, .int .i64 (j + 1)] 82)
       have hB5 := hE5.blk hB
       (have p0 := bC (B5) 0; have p1 := bC (B5) 1; have p2 := bC (B5) 2; have p3 := bC (B5) 3; have p4 := bC (B5) 4; have p5 := bC (B5) 5)
       (have z0 := bC (hB5) 0; have zf0 := bF (hB5) 0; have z1 := bC (hB5) 1; have zf1 := bF (hB5) 1; have z2 := bC (hB5) 2; have zf2 := bF (hB5) 2; have z3 := bC (hB5) 3; have zf3 := bF (hB5) 3; have z4 := bC (hB5) 4; have zf4 := bF (hB5) 4; have z5 := bC (hB5) 5; have zf5 := bF (hB5) 5)
       have nx : ¬ w4.heap.size = x + 1 := by have := hE14.size; omega
       have hwp : IntKind.i64.wrap ((at_ : Int) + ((recAdd j).length : Int)) = (at_ : Int) + ((recAdd j).length : Int) := by rw [IntKind.wrap_i64]; have := HRL.out; omega
       go_wp2_with (fail)
       have P := put6 hB5 (.slice As2 s.types.length cs2) (.int .i64 s.keys) (.int .i64 s.mode) (.int .i64 s.grain) (.slice Ai4 (idsTo (j + 1)).length ci4) (.int .i64 (j + 1))
       go_roundw
       case rel => exact ⟨at_ + (recAdd j).length, by go_num, by have := HRL.out; omega, .inr ⟨j + 1, As2, cs2, Ai4, ci4, hjn, by rw [adds_succ, List.length_append, hat0.out.2]; omega, (Rd.Sl.ext hs2 hE5).keep (P.2.mono (fun k _ q => .inr (.inr q))), (hi4.ext ((Ext.refl w4).alloc _)).keep (P.2.mono (fun k _ q => .inr (.inr q))), P.1⟩, hk.trans ((hE5.keep _).trans P.2)⟩
       case measure => have := recAdd_pos j; have := HRL.out; simp [intOf] <;> omega
   · obtain rfl : at_ = L := by omega
     rcases hat with ⟨rfl, hB⟩ | ⟨j, As2, cs2, Ai2, ci2, hj, hat, hs2, hi2, hB⟩
     · exact absurd HBL.out (by have := hRH.out; omega)
     · obtain rfl : j = n := by
         rcases Nat.lt_or_ge j n with q | q
         · obtain ⟨r, hr1, hr2⟩ := adds_cat hj
           obtain ⟨r', rfl⟩ := hr2 q
           have := congrArg List.length hr1
           have := recAdd_pos j
           have := HBL.out
           rw [hr1, List.length_append, List.length_append] at this
           omega
         · omega
       have d0 : decide (0 < at_) = true := decide_eq_true (by have := hRH.out; omega)
       have HAT := As.mk hat
       clear hat
       (have q0 := bC (hB) 0; have q1 := bC (hB) 1; have q2 := bC (hB) 2; have q3 := bC (hB) 3; have q4 := bC (hB) 4; have q5 := bC (hB) 5)
       (have z0 := bC (C1) 0; have zf0 := bF (C1) 0; have z1 := bC (C1) 1; have zf1 := bF (C1) 1; have z2 := bC (C1) 2; have zf2 := bF (C1) 2; have z3 := bC (C1) 3; have zf3 := bF (C1) 3; have z4 := bC (C1) 4; have zf4 := bF (C1) 4; have z5 := bC (C1) 5; have zf5 := bF (C1) 5)
       go_wp2_with (fail)
       simp only [Exit.noGoto_ret]
       have P := put6 C1 (.slice As2 s.types.length cs2) (.int .i64 s.keys) (.int .i64 s.mode) (.int .i64 s.grain) (.slice Ai2 (idsTo j).length ci2) (.int .i64 j)
       (have e0 := bC (P.1) 0; have e1 := bC (P.1) 1; have e2 := bC (P.1) 2; have e3 := bC (P.1) 3; have e4 := bC (P.1) 4; have e5 := bC (P.1) 5)
       refine bodyPost_ret (v := .tuple #[stV As2 cs2 s Ai2 ci2 (idsTo j) j, .int .i64 at_, .bool true]) (by simp [results, Tryz.results169, go_sem, e0, e1, e2, e3, e4, e5, d0]) rfl ?_
       refine ⟨As2, cs2, Ai2, ci2, by rw [HL.out], ?_, ?_, ?_⟩
       · exact Rd.Sl.narrow (by decide) (Rd.Sl.keep hs2 (P.2.mono (fun k _ q => .inr (.inl q)))) (fun k _ q => .inl q)
       · exact Rd.Sl.narrow (by decide) (hi2.keep (P.2.mono (fun k _ q => .inr (.inl q)))) (fun k _ q => .inl q)
       · exact (hE1.keepNew hk (fun i q => by omega)).keepNew P.2 (fun i q => by omega)
end K78
namespace K79
open Go Go.RowKit
open KB KB2 KB3 K1 K6 K7 K8 K9 K14 P5 K25 K31 K34 K35 K42 K46 K50 K51 K54 K58 K75 K76 K77 K78
theorem putSch_le (s : Sch) (hs : s.Ok) : (putSch s).length ≤ 68 := by rw [putSch, putN_length _ (nums_small hs), nums_length]; have := hs.n2; omega
theorem sameC (F : Nat → Prop) (A B : Option Addr) (c d : Nat) (s t : Sch) (hs : s.Ok) (ht : t.Ok) (w : World) (hA : SchAt F w A c s) (hB : SchAt F w B d t) (hF : ∀ k, F k → k < w.heap.size) :
   Calls Tryz.prog 86 #[schV A c s, schV B d t] w fun e w' => e = .returned (.bool (decide (putSch s = putSch t))) ∧ Ext w w' := by
 obtain ⟨x, hx⟩ : ∃ x, w.heap.size = x := ⟨_, rfl⟩
 have hE1 := ((Ext.refl w).alloc (.cells #[.slice A s.types.length c, .int .i64 s.keys, .int .i64 s.mode, .int .i64 s.grain] 27)).alloc (.cells #[.slice B t.types.length d, .int .i64 t.keys, .int .i64 t.mode, .int .i64 t.grain] 27)
 have B1 := bO2 (o' := .cells #[.slice B t.types.length d, .int .i64 t.keys, .int .i64 t.mode, .int .i64 t.grain] 27) (bN w (.cells #[.slice A s.types.length c, .int .i64 s.keys, .int .i64 s.mode, .int .i64 s.grain] 27))
 have B2 := bN (w.alloc (.cells #[.slice A s.types.length c, .int .i64 s.keys, .int .i64 s.mode, .int .i64 s.grain] 27)) (.cells #[.slice B t.types.length d, .int .i64 t.keys, .int .i64 t.mode, .int .i64 t.grain] 27)
 simp only [World.size_alloc, hx] at B1 B2
 go_enter Tryz.func86, Tryz.ntmps86
 go_wp2_with (fail)
 generalize (w.alloc (.cells #[.slice A s.types.length c, .int .i64 s.keys, .int .i64 s.mode, .int .i64 s.grain] 27)).alloc (.cells #[.slice B t.types.length d, .int .i64 t.keys, .int .i64 t.mode, .int .i64 t.grain] 27) = w1 at *
 have hA1 := Rd.Sl.ext hA hE1
 have hB1 := Rd.Sl.ext hB hE1
 have hF1 := FExt hF hE1
 have h1 := fun W (hW : Ext w1 W) => putSC F A c s W (hA1.ext hW) hs (FExt hF1 hW)
 have h2 := fun W (hW : Ext w1 W) => putSC F B d t W (hB1.ext hW) ht (FExt hF1 hW)
 have L1 : (putSch s).length ≤ 100000000 := by have := putSch_le s hs; omega
 have L2 : (putSch t).length ≤ 100000000 := by have := putSch_le t ht; omega
 (have p0 := bC (B1) 0; have p1 := bC (B1) 1; have p2 := bC (B1) 2; have p3 := bC (B1) 3)
 (have q0 := bC (B2) 0; have q1 := bC (B2) 1; have q2 := bC (B2) 2; have q3 := bC (B2) 3)
 have keep : ∀ w', Ext w1 w' → Ext w1 w' ∧ w'.cell? ⟨x, 0, none⟩ = some (.slice A s.types.length c) ∧ w'.cell? ⟨x, 1, none⟩ = some (.int .i64 s.keys) ∧ w'.cell? ⟨x, 2, none⟩ = some (.int .i64 s.mode) ∧ w'.cell? ⟨x, 3, none⟩ = some (.int .i64 s.grain) ∧ w'.cell? ⟨x + 1, 0, none⟩ = some (.slice B t.types.length d) ∧ w'.cell? ⟨x + 1, 1, none⟩ = some (.int .i64 t.keys) ∧ w'.cell? ⟨x + 1, 2, none⟩ = some (.int .i64 t.mode) ∧ w'.cell? ⟨x + 1, 3, none⟩ = some (.int .i64 t.grain) := fun w' h => ⟨h, h.cell p0, h.cell p1, h.cell p2, h.cell p3, h.cell q0, h.cell q1, h.cell q2, h.cell q3⟩
 clear p0 p1 p2 p3 q0 q1 q2 q3
 go_region_held3 (fun w' => Ext w1 w' ∧ w'.cell? ⟨x, 0, none⟩ = some (.slice A s.types.length c) ∧ w'.cell? ⟨x, 1, none⟩ = some (.int .i64 s.keys) ∧ w'.cell? ⟨x, 2, none⟩ = some (.int .i64 s.mode) ∧ w'.cell? ⟨x, 3, none⟩ = some (.int .i64 s.grain) ∧ w'.cell? ⟨x + 1, 0, none⟩ = some (.slice B t.types.length d) ∧ w'.cell? ⟨x + 1, 1, none⟩ = some (.int .i64 t.keys) ∧ w'.cell? ⟨x + 1, 2, none⟩ = some (.int .i64 t.mode) ∧ w'.cell? ⟨x + 1, 3, none⟩ = some (.int .i64 t.grain)) (((try dsimp only); refine keep _ ?_; first | with_reducible assumption | exact XE)) (first | (go_at_call 129; with_reducible refine Calls.mono (h1 _ ?_) ?_; exact XE; rintro e w2 ⟨A2, c2, rfl, hs2, hE2⟩; have hx2 := Ext.trans (a := w1) XE hE2) | (go_at_call 129; with_reducible refine Calls.mono (h2 _ ?_) ?_; exact XE; rintro e w3 ⟨A3, c3, rfl, hs3, hE3⟩; have hx3 := Ext.trans (a := w1) XE hE3) | (go_at_call 170; with_reducible refine Calls.mono (equalB F A2 A3 c2 c3 (putSch s) (putSch t) _ (by first | with_reducible exact hs2 | exact Rd.Sl.ext hs2 (by with_reducible assumption)) (by first | with_reducible exact hs3 | exact Rd.Sl.ext hs3 (by with_reducible assumption)) L1 L2) ?_; rintro e w4 ⟨rfl, hE4⟩; have hx4 := Ext.trans (a := w1) XE hE4))
 go_wp2_with (fail)
 go_ret
 exact ⟨rfl, hE1.trans (by with_reducible assumption)⟩
theorem loadDC (F : Nat → Prop) (dg mg : Nat) (D : Dsk) (w : World) (h : DiskAt F w dg mg D) (s : Sch) (hs : s.Ok) (n : Nat) (hn : n ≤ 40) (i : Nat) (hi : getA logS D.M = some i) (fb : List Int) (fs : Int) (hf : D.files[i]? = some (fb, fs)) (hb : fb = recHead s [] 0 ++ adds n) (hbl : fb.length ≤ 100000) (hF : ∀ k, F k → k < w.heap.size) :
   Calls Tryz.prog 85 #[BX dg] w fun e w' => ∃ As cs Ai ci, e = .returned (.tuple #[stV As cs s Ai ci (idsTo n) n, .int .i64 0]) ∧ SchAt (DF F dg mg) w' As cs s ∧ (rdInt .i64).Sl (DF F dg mg) w' Ai ci (idsTo n) ∧ Ext w w' := by
 have hDF := DFlt h hF
 obtain ⟨x, hx⟩ : ∃ x, w.heap.size = x := ⟨_, rfl⟩
 have hE1 := (Ext.refl w).alloc (.cells #[.slice none 0 0, .int .i64 0, .int .i64 0, .int .i64 0, .slice none 0 0, .int .i64 0] 82)
 have B1 := bN w (.cells #[.slice none 0 0, .int .i64 0, .int .i64 0, .int .i64 0, .slice none 0 0, .int .i64 0] 82)
 have hG : ∀ k, (F k ∨ k = x) → k < (w.alloc (.cells #[.slice none 0 0, .int .i64 0, .int .i64 0, .int .i64 0, .slice none 0 0, .int .i64 0] 82)).heap.size := fun k q => q.elim (FExt hF hE1 k) (fun q => by rw [q, ← hx]; simp)
 have hD1 := (disk_narrow (G := fun k => F k ∨ k = x) h (fun k hk q => q.elim id (fun q => by omega))).ext hE1
 rw [hx] at B1
 have HB := As.mk hb
 clear hb
 have hr := readC (fun k => F k ∨ k = x) dg mg D _ hD1 logS (by decide) i hi fb fs hf hG
 go_enter Tryz.func85, Tryz.ntmps85
 go_wp2_with (fail)
 refine hr.mono ?_; rintro e w2 ⟨A, c, rfl, hA, hE2⟩
 clear hr
 have hE12 := hE1.trans hE2
 replace B1 := hE2.blk B1
 go_wp2_with (fail)
 refine (allRC (DF (fun k => F k ∨ k = x) dg mg) A c s hs n hn fb HB.out w2 hA hbl (FExt (DFlt hD1 hG) hE2)).mono ?_; rintro e w3 ⟨As, cs, Ai, ci, rfl, hsA, hsi, hE3⟩
 have B3 := bN w3 (.cells #[.slice As s.types.length cs, .int .i64 s.keys, .int .i64 s.mode, .int .i64 s.grain, .slice Ai (idsTo n).length ci, .int .i64 n] 82)
 have hE4 := (Ext.refl w3).alloc (.cells #[.slice As s.types.length cs, .int .i64 s.keys, .int .i64 s.mode, .int .i64 s.grain, .slice Ai (idsTo n).length ci, .int .i64 n] 82)
 have B4 := hE4.blk (hE3.blk B1)
 have hlt := blk_lt (hE3.blk B1)
 have hne : ¬ w3.heap.size = x := by omega
 have hEw := (hE12.trans hE3).trans hE4
 clear hlt
 (have p0 := bC (B3) 0; have p1 := bC (B3) 1; have p2 := bC (B3) 2; have p3 := bC (B3) 3; have p4 := bC (B3) 4; have p5 := bC (B3) 5)
 (have z0 := bC (B4) 0; have zf0 := bF (B4) 0; have z1 := bC (B4) 1; have zf1 := bF (B4) 1; have z2 := bC (B4) 2; have zf2 := bF (B4) 2; have z3 := bC (B4) 3; have zf3 := bF (B4) 3; have z4 := bC (B4) 4; have zf4 := bF (B4) 4; have z5 := bC (B4) 5; have zf5 := bF (B4) 5)
 go_wp2_with (fail)
 have P := put6 B4 (.slice As s.types.length cs) (.int .i64 s.keys) (.int .i64 s.mode) (.int .i64 s.grain) (.slice Ai (idsTo n).length ci) (.int .i64 n)
 (have e0 := bC (P.1) 0; have e1 := bC (P.1) 1; have e2 := bC (P.1) 2; have e3 := bC (P.1) 3; have e4 := bC (P.1) 4; have e5 := bC (P.1) 5)
 refine bodyPost_ret (v := .tuple #[stV As cs s Ai ci (idsTo n) n, .int .i64 0]) (by simp [results, Tryz.results85, go_sem, e0, e1, e2, e3, e4, e5]) rfl ?_
 exact ⟨As, cs, Ai, ci, rfl, Rd.Sl.narrow (by decide) (Rd.Sl.keep (Rd.Sl.ext hsA hE4) (P.2.mono (fun k _ q => .inl (.inr q)))) (fun k _ q => q.elim (fun q => .inl (.inl q)) .inr), Rd.Sl.narrow (by decide) ((hsi.ext hE4).keep (P.2.mono (fun k _ q => .inl (.inr q)))) (fun k _ q => q.elim (fun q => .inl (.inl q)) .inr), hEw.keepNew P.2 (fun i q => by omega)⟩
theorem load0C (F : Nat → Prop) (dg mg : Nat) (D : Dsk) (w : World) (h : DiskAt F w dg mg D) (A : Option Addr) (c : Nat) (s : Sch) (hno : getA logS D.M = none) (hF : ∀ k, F k → k < w.heap.size) :
   Calls Tryz.prog 36 #[BX dg, schV A c s] w fun e w' => e = .returned (.tuple #[stV A c s none 0 [] 0, .int .i64 0]) ∧ Ext w w' := by
 obtain ⟨x, hx⟩ : ∃ x, w.heap.size = x := ⟨_, rfl⟩
 have hE1 := ((Ext.refl w).alloc (.cells #[.slice A s.types.length c, .int .i64 s.keys, .int .i64 s.mode, .int .i64 s.grain] 27)).alloc (.cells #[.slice none 0 0, .int .i64 0, .int .i64 0, .int .i64 0, .slice none 0 0, .int .i64 0] 82)
 have B1 := bO2 (o' := .cells #[.slice none 0 0, .int .i64 0, .int .i64 0, .int .i64 0, .slice none 0 0, .int .i64 0] 82) (bN w (.cells #[.slice A s.types.length c, .int .i64 s.keys, .int .i64 s.mode, .int .i64 s.grain] 27))
 have B2 := bN (w.alloc (.cells #[.slice A s.types.length c, .int .i64 s.keys, .int .i64 s.mode, .int .i64 s.grain] 27)) (.cells #[.slice none 0 0, .int .i64 0, .int .i64 0, .int .i64 0, .slice none 0 0, .int .i64 0] 82)
 simp only [World.size_alloc, hx] at B1 B2
 go_enter Tryz.func36, Tryz.ntmps36
 go_wp2_with (fail)
 generalize (w.alloc (.cells #[.slice A s.types.length c, .int .i64 s.keys, .int .i64 s.mode, .int .i64 s.grain] 27)).alloc (.cells #[.slice none 0 0, .int .i64 0, .int .i64 0, .int .i64 0, .slice none 0 0, .int .i64 0] 82) = w1 at *
 refine (namesC F dg mg D _ (h.ext hE1) (FExt hF hE1)).mono ?_; rintro e w2 ⟨A2, c2, rfl, hN, hE2⟩
 go_wp2_with (fail)
 have hml := h.ml
 have hle := h.le
 have hcn := containsS F A2 c2 _ logS w2 hN (by simp; omega)
 rw [List.length_map] at hcn
 refine hcn.mono ?_; rintro e w3 ⟨⟨f, rfl, hf⟩, rfl⟩
 obtain rfl : f = false := by
   rcases f with _ | _
   · rfl
   · exact absurd (hf.1 rfl) (getA_none.1 hno)
 clear hcn hf hml hle
 have hE12 := hE1.trans hE2
 replace B1 := hE2.blk B1
 replace B2 := hE2.blk B2
 (have p0 := bC (B1) 0; have p1 := bC (B1) 1; have p2 := bC (B1) 2; have p3 := bC (B1) 3)
 (have z0 := bC (B2) 0; have zf0 := bF (B2) 0; have z1 := bC (B2) 1; have zf1 := bF (B2) 1; have z2 := bC (B2) 2; have zf2 := bF (B2) 2; have z3 := bC (B2) 3; have zf3 := bF (B2) 3; have z4 := bC (B2) 4; have zf4 := bF (B2) 4; have z5 := bC (B2) 5; have zf5 := bF (B2) 5)
 go_wp2_with (fail)
 have P := put6 B2 (.slice A s.types.length c) (.int .i64 s.keys) (.int .i64 s.mode) (.int .i64 s.grain) (.slice none 0 0) (.int .i64 0)
 (have e0 := bC (P.1) 0; have e1 := bC (P.1) 1; have e2 := bC (P.1) 2; have e3 := bC (P.1) 3; have e4 := bC (P.1) 4; have e5 := bC (P.1) 5)
 refine bodyPost_ret (v := .tuple #[stV A c s none 0 [] 0, .int .i64 0]) (by simp [results, Tryz.results36, go_sem, e0, e1, e2, e3, e4, e5]) rfl ?_
 exact ⟨rfl, hE12.keepNew P.2 (fun i q => by omega)⟩
theorem load1C (F : Nat → Prop) (dg mg : Nat) (D : Dsk) (w : World) (h : DiskAt F w dg mg D) (A : Option Addr) (c : Nat) (s : Sch) (hs : s.Ok) (hA : SchAt F w A c s) (n : Nat) (hn : n ≤ 40) (i : Nat) (hi : getA logS D.M = some i) (fb : List Int) (fs : Int) (hf : D.files[i]? = some (fb, fs)) (hb : fb = recHead s [] 0 ++ adds n) (hbl : fb.length ≤ 100000) (hF : ∀ k, F k → k < w.heap.size) :
   Calls Tryz.prog 36 #[BX dg, schV A c s] w fun e w' => ∃ As cs Ai ci, e = .returned (.tuple #[stV As cs s Ai ci (idsTo n) n, .int .i64 0]) ∧ SchAt (DF F dg mg) w' As cs s ∧ (rdInt .i64).Sl (DF F dg mg) w' Ai ci (idsTo n) ∧ Ext w w' := by
 obtain ⟨x, hx⟩ : ∃ x, w.heap.size = x := ⟨_, rfl⟩
 have hE1 := ((Ext.refl w).alloc (.cells #[.slice A s.types.length c, .int .i64 s.keys, .int .i64 s.mode, .int .i64 s.grain] 27)).alloc (.cells #[.slice none 0 0, .int .i64 0, .int .i64 0, .int .i64 0, .slice none 0 0, .int .i64 0] 82)
 have B1 := bO2 (o' := .cells #[.slice none 0 0, .int .i64 0, .int .i64 0, .int .i64 0, .slice none 0 0, .int .i64 0] 82) (bN w (.cells #[.slice A s.types.length c, .int .i64 s.keys, .int .i64 s.mode, .int .i64 s.grain] 27))
 have B2 := bN (w.alloc (.cells #[.slice A s.types.length c, .int .i64 s.keys, .int .i64 s.mode, .int .i64 s.grain] 27)) (.cells #[.slice none 0 0, .int .i64 0, .int .i64 0, .int .i64 0, .slice none 0 0, .int .i64 0] 82)
 simp only [World.size_alloc, hx] at B1 B2
 have hG : ∀ k, (F k ∨ k = x + 1) → k < ((w.alloc (.cells #[.slice A s.types.length c, .int .i64 s.keys, .int .i64 s.mode, .int .i64 s.grain] 27)).alloc (.cells #[.slice none 0 0, .int .i64 0, .int .i64 0, .int .i64 0, .slice none 0 0, .int .i64 0] 82)).heap.size := fun k q => q.elim (FExt hF hE1 k) (fun q => by rw [q, ← hx]; simp)
 have hD1 := (disk_narrow (G := fun k => F k ∨ k = x + 1) h (fun k hk q => q.elim id (fun q => by omega))).ext hE1
 have HB := As.mk hb
 have hml := h.ml
 have hle := h.le
 have hmx : D.M.length ≤ 1000000 := by omega
 clear hb hml hle
 go_enter Tryz.func36, Tryz.ntmps36
 go_wp2_with (fail)
 generalize (w.alloc (.cells #[.slice A s.types.length c, .int .i64 s.keys, .int .i64 s.mode, .int .i64 s.grain] 27)).alloc (.cells #[.slice none 0 0, .int .i64 0, .int .i64 0, .int .i64 0, .slice none 0 0, .int .i64 0] 82) = w1 at *
 refine (namesC _ dg mg D _ hD1 hG).mono ?_; rintro e w2 ⟨A2, c2, rfl, hN, hE2⟩
 go_wp2_with (fail)
 have hcn := containsS _ A2 c2 _ logS w2 hN (by simp; exact hmx)
 rw [List.length_map] at hcn
 refine hcn.mono ?_; rintro e w3 ⟨⟨f, rfl, hff⟩, rfl⟩
 clear hcn
 obtain rfl : f = true := hff.2 (List.mem_map.2 ⟨_, getA_mem hi, rfl⟩)
 clear hff
 have hE12 := hE1.trans hE2
 go_wp2_with (fail)
 refine (loadDC (fun k => F k ∨ k = x + 1) dg mg D _ (hD1.ext hE2) s hs n hn i hi fb fs hf HB.out hbl (FExt hG hE2)).mono ?_; rintro e w4 ⟨As, cs, Ai, ci, rfl, hsA, hsi, hE4⟩
 have B3 := bN w4 (.cells #[.slice As s.types.length cs, .int .i64 s.keys, .int .i64 s.mode, .int .i64 s.grain, .slice Ai (idsTo n).length ci, .int .i64 n] 82)
 have hE5 := (Ext.refl w4).alloc (.cells #[.slice As s.types.length cs, .int .i64 s.keys, .int .i64 s.mode, .int .i64 s.grain, .slice Ai (idsTo n).length ci, .int .i64 n] 82)
 have hE15 := (hE2.trans hE4).trans hE5
 obtain ⟨y, hy⟩ : ∃ y, w4.heap.size = y := ⟨_, rfl⟩
 rw [hy] at B3
 replace B1 := hE15.blk B1
 replace B2 := hE15.blk B2
 (have p0 := bC (B1) 0; have p1 := bC (B1) 1; have p2 := bC (B1) 2; have p3 := bC (B1) 3)
 (have q0 := bC (B3) 0; have q1 := bC (B3) 1; have q2 := bC (B3) 2; have q3 := bC (B3) 3; have q4 := bC (B3) 4; have q5 := bC (B3) 5)
 rw [← hy] at q0 q1 q2 q3 q4 q5
 go_wp2_with (fail)
 generalize w4.alloc (.cells #[.slice As s.types.length cs, .int .i64 s.keys, .int .i64 s.mode, .int .i64 s.grain, .slice Ai (idsTo n).length ci, .int .i64 n] 82) = w5 at *
 refine (sameC F As A cs c s s hs hs w5 (Rd.Sl.narrow (by decide) (Rd.Sl.ext hsA hE5) (fun k _ q => .inl (.inl q))) (Rd.Sl.ext hA (hE1.trans hE15)) (FExt hF (hE1.trans hE15))).mono ?_; rintro e w6 ⟨rfl, hE6⟩
 rw [decide_eq_true rfl]
 replace B2 := hE6.blk B2
 replace B3 := hE6.blk B3
 have hE16 := hE15.trans hE6
 clear p0 p1 p2 p3 q0 q1 q2 q3 q4 q5
 have nx : ¬ y = x + 1 := by have := blk_lt B2; have := (hE2.trans hE4).size; have := hG (x + 1) (.inr rfl); omega
 (have z0 := bC (B2) 0; have zf0 := bF (B2) 0; have z1 := bC (B2) 1; have zf1 := bF (B2) 1; have z2 := bC (B2) 2; have zf2 := bF (B2) 2; have z3 := bC (B2) 3; have zf3 := bF (B2) 3; have z4 := bC (B2) 4; have zf4 := bF (B2) 4; have z5 := bC (B2) 5; have zf5 := bF (B2) 5)
 (have q0 := bC (B3) 0; have q1 := bC (B3) 1; have q2 := bC (B3) 2; have q3 := bC (B3) 3; have q4 := bC (B3) 4; have q5 := bC (B3) 5)
 go_wp2_with (fail)
 have P := put6 B2 (.slice As s.types.length cs) (.int .i64 s.keys) (.int .i64 s.mode) (.int .i64 s.grain) (.slice Ai (idsTo n).length ci) (.int .i64 n)
 (have e0 := bC (P.1) 0; have e1 := bC (P.1) 1; have e2 := bC (P.1) 2; have e3 := bC (P.1) 3; have e4 := bC (P.1) 4; have e5 := bC (P.1) 5)
 refine bodyPost_ret (v := .tuple #[stV As cs s Ai ci (idsTo n) n, .int .i64 0]) (by simp [results, Tryz.results36, go_sem, e0, e1, e2, e3, e4, e5]) rfl ?_
 exact ⟨As, cs, Ai, ci, rfl, Rd.Sl.narrow (by decide) (Rd.Sl.keep (Rd.Sl.ext hsA (hE5.trans hE6)) (P.2.mono (fun k _ q => .inl (.inr q)))) (fun k _ q => q.elim (fun q => .inl (.inl q)) .inr), Rd.Sl.narrow (by decide) ((hsi.ext (hE5.trans hE6)).keep (P.2.mono (fun k _ q => .inl (.inr q)))) (fun k _ q => q.elim (fun q => .inl (.inl q)) .inr), (hE1.trans hE16).keepNew P.2 (fun i q => by omega)⟩
end K79
namespace K21
open Go Go.RowKit
open KB KB2 K1 K3 K9
theorem schemaC (F : Nat → Prop) (A : Option Addr) (c : Nat) (s : Sch) (w : World) (hA : SchAt F w A c s) (hn : s.types.length ≤ 64) (hF : ∀ k, F k → k < w.heap.size) :
   Calls Tryz.prog 88 #[schV A c s] w fun e w' => ∃ A' c', e = .returned (schV A' c' s) ∧ SchAt F w' A' c' s ∧ Ext w w' := by
 have B1 := bO2 (o' := .cells #[.slice A s.types.length c, .int .i64 s.keys, .int .i64 s.mode, .int .i64 s.grain] 27) (bN (w.alloc (.cells #[.slice A s.types.length c, .int .i64 s.keys, .int .i64 s.mode, .int .i64 s.grain] 168)) (.cells #[.slice none 0 0, .int .i64 0, .int .i64 0, .int .i64 0] 27))
 have B2 := bN ((w.alloc (.cells #[.slice A s.types.length c, .int .i64 s.keys, .int .i64 s.mode, .int .i64 s.grain] 168)).alloc (.cells #[.slice none 0 0, .int .i64 0, .int .i64 0, .int .i64 0] 27)) (.cells #[.slice A s.types.length c, .int .i64 s.keys, .int .i64 s.mode, .int .i64 s.grain] 27)
 have hEb := (((Ext.refl w).alloc (.cells #[.slice A s.types.length c, .int .i64 s.keys, .int .i64 s.mode, .int .i64 s.grain] 168)).alloc (.cells #[.slice none 0 0, .int .i64 0, .int .i64 0, .int .i64 0] 27)).alloc (.cells #[.slice A s.types.length c, .int .i64 s.keys, .int .i64 s.mode, .int .i64 s.grain] 27)
 simp only [World.size_alloc] at B1 B2
 go_enter Tryz.func88, Tryz.ntmps88
 go_wp2_with (fail)
 generalize (((w.alloc (.cells #[.slice A s.types.length c, .int .i64 s.keys, .int .i64 s.mode, .int .i64 s.grain] 168)).alloc (.cells #[.slice none 0 0, .int .i64 0, .int .i64 0, .int .i64 0] 27)).alloc (.cells #[.slice A s.types.length c, .int .i64 s.keys, .int .i64 s.mode, .int .i64 s.grain] 27)) = wb at *
 have hlt1 := blk_lt B1
 have hlt2 := blk_lt B2
 refine (cloneI (fun k => F k ∨ k = w.heap.size + 1 ∨ k = w.heap.size + 1 + 1) A c s.types wb ?_ (by omega) (fun k hk => ?_)).mono ?_
 · refine Rd.Sl.ext (w := w) (Rd.Sl.narrow Nat.one_pos hA (fun k hk h => ?_)) hEb
   rcases h with h | h | h
   · exact h
   · omega
   · omega
 · rcases hk with h | h | h
   · exact FExt hF hEb k h
   · omega
   · omega
 rintro e w1 ⟨A1, c1, rfl, hs1, hE1⟩
 have D1 := hE1.blk B1
 have D2 := hE1.blk B2
 have x1 := bC D2 1
 have x2 := bC D2 2
 have x3 := bC D2 3
 have x0 := bC D2 0
 have fx0 := bF D2 0
 have r0 := bC D1 0
 have r1 := bC D1 1
 have r2 := bC D1 2
 have r3 := bC D1 3
 have q0 := bF D1 0
 have q1 := bF D1 1
 have q2 := bF D1 2
 have q3 := bF D1 3
 go_wp2_with (fail)
 have D3 : (w1.setCell ⟨w.heap.size + 1 + 1, 0, none⟩ (.slice A1 s.types.length c1)).heap[w.heap.size + 1]? = _ := (Below.heap_setCell _ _ _ _ (by simp)).trans D1
 have B4 := bS (bS (bS (bS D3 0 (.slice A1 s.types.length c1)) 1 (.int .i64 s.keys)) 2 (.int .i64 s.mode)) 3 (.int .i64 s.grain)
 have e0 := bC B4 0
 have e1 := bC B4 1
 have e2 := bC B4 2
 have e3 := bC B4 3
 clear B4
 (try simp only [Exit.inBlock, Exit.then])
 refine bodyPost_ret (v := schV A1 c1 s) (by simp [results, Tryz.results88, go_sem, e0, e1, e2, e3, schV]) rfl ?_
 refine ⟨A1, c1, rfl, ?_, (((((hEb.trans hE1).setCell (a := ⟨w.heap.size + 1 + 1, 0, none⟩) (by show _ ≤ w.heap.size + 1 + 1; omega) _).setCell (a := ⟨w.heap.size + 1, 0, none⟩) (by show _ ≤ w.heap.size + 1; omega) _).setCell (a := ⟨w.heap.size + 1, 1, none⟩) (by show _ ≤ w.heap.size + 1; omega) _).setCell (a := ⟨w.heap.size + 1, 2, none⟩) (by show _ ≤ w.heap.size + 1; omega) _).setCell (a := ⟨w.heap.size + 1, 3, none⟩) (by show _ ≤ w.heap.size + 1; omega) _⟩
 refine Rd.Sl.narrow Nat.one_pos ?_ (fun k _ hk => Or.inl hk : ∀ k, _ → F k → F k ∨ k = w.heap.size + 1 ∨ k = w.heap.size + 1 + 1)
 exact hs1.keep (((((Keep.setCell _ _ _ (.inr (.inr rfl))).trans (Keep.setCell _ _ _ (.inr (.inl rfl)))).trans (Keep.setCell _ _ _ (.inr (.inl rfl)))).trans (Keep.setCell _ _ _ (.inr (.inl rfl)))).trans (Keep.setCell _ _ _ (.inr (.inl rfl))))
end K21
namespace K80
open Go Go.RowKit
open KB KB2 KB3 K1 K6 K7 K8 K9 K14 K17 K19 K21 P5 K25 K31 K34 K35 K42 K46 K54 K57 K75 K76 K77 K78 K79
theorem openDC (F : Nat → Prop) (dg mg : Nat) (D : Dsk) (w : World) (h : DiskAt F w dg mg D) (A : Option Addr) (c : Nat) (s : Sch) (hA : SchAt F w A c s) (id : Nat) (hid : id < 100) (i : Nat) (hi : getA (nameS id) D.M = some i) (l : List Row) (ho : PartOk s l) (fs : Int) (hf : D.files[i]? = some (partB s l, fs)) (hF : ∀ k, F k → k < w.heap.size) :
   Calls Tryz.prog 38 #[BX dg, schV A c s, .int .i64 id] w fun e w' => ∃ g, e = .returned (.tuple #[.pointer (some ⟨g, 0, none⟩), .int .i64 0]) ∧ w.heap.size ≤ g ∧ PartAt (DF F dg mg) w' g s l ∧ Ext w w' := by
 obtain ⟨x, hx⟩ : ∃ x, w.heap.size = x := ⟨_, rfl⟩
 have hxl : w.heap.size ≤ x := Nat.le_of_eq hx
 have hs := ho.sch
 have hn2 := hs.n2
 have hDF := DFlt h hF
 have hE1 := (Ext.refl w).alloc (.cells #[.slice A s.types.length c, .int .i64 s.keys, .int .i64 s.mode, .int .i64 s.grain] 27)
 have B1 := bN w (.cells #[.slice A s.types.length c, .int .i64 s.keys, .int .i64 s.mode, .int .i64 s.grain] 27)
 rw [hx] at B1
 go_enter Tryz.func38, Tryz.ntmps38
 go_wp2_with (fail)
 generalize w.alloc (.cells #[.slice A s.types.length c, .int .i64 s.keys, .int .i64 s.mode, .int .i64 s.grain] 27) = w1 at *
 refine (nameC id hid w1).mono ?_; rintro e w' ⟨rfl, rfl⟩
 go_wp2_with (fail)
 refine (readC F dg mg D w' (h.ext hE1) (nameS id) (by have := nameS_size id hid; omega) i hi (partB s l) fs hf (FExt hF hE1)).mono ?_; rintro e w2 ⟨Ab, cb, rfl, hb2, hE2⟩
 have hE12 := hE1.trans hE2
 obtain ⟨b, hb⟩ : ∃ b, partB s l = b := ⟨_, rfl⟩
 rw [hb] at hb2 ⊢
 have HB := As.mk hb.symm
 clear hb hf
 go_wp2_with (fail)
 refine (openPC (DF F dg mg) Ab cb s l b HB.out w2 hb2 ho (FExt hDF hE12)).mono ?_; rintro e w3 ⟨g, rfl, hg, hp, hE3⟩
 have hE13 := hE12.trans hE3
 have hp' := hp
 obtain ⟨hgf, A4, c4, Ag, cg, Am, cm, Ar, cr, hB4, hs4, -, -, -⟩ := hp'
 replace B1 := (hE2.trans hE3).blk B1
 (have p0 := bC (B1) 0; have p1 := bC (B1) 1; have p2 := bC (B1) 2; have p3 := bC (B1) 3)
 (have q0 := bC (hB4) 0; have q1 := bC (hB4) 1; have q2 := bC (hB4) 2; have q3 := bC (hB4) 3)
 have hF3 := FExt hDF hE13
 have hF0 := FExt hF hE13
 have hA3 := Rd.Sl.ext hA hE13
 have hsc := fun W (hW : Ext w3 W) => schemaC (DF F dg mg) A4 c4 s W (Rd.Sl.ext hs4 hW) (by omega) (FExt hF3 hW)
 have hsm := fun A5 c5 W (hW : Ext w3 W) (h5 : SchAt (DF F dg mg) W A5 c5 s) => (sameC F A5 A c5 c s s hs hs W (Rd.Sl.narrow (by decide) h5 (fun k _ q => .inl q)) (Rd.Sl.ext hA3 hW) (FExt hF0 hW)).mono (fun e w' (h : e = .returned (.bool (decide (putSch s = putSch s))) ∧ Ext W w') => (⟨by rw [h.1, decide_eq_true rfl], h.2⟩ : e = .returned (.bool true) ∧ Ext W w'))
 go_wp2_with (fail)
 go_region_law (first | (go_simp; go_at_call 88; with_reducible refine Calls.mono (hsc _ ?_) ?_; exact XE; rintro e w4 ⟨A5, c5, rfl, hs5, hE5⟩; have hx5 := Ext.trans (a := w3) XE hE5; (have z0 := bC (hx5.blk B1) 0; have z1 := bC (hx5.blk B1) 1; have z2 := bC (hx5.blk B1) 2; have z3 := bC (hx5.blk B1) 3); dsimp only) | (go_simp; go_at_call 86; refine Calls.mono (hsm A5 c5 _ ?_ ?_) ?_; exact XE; exact Rd.Sl.ext hs5 XE; rintro e w6 ⟨rfl, hE6⟩; have hx6 := Ext.trans (a := w3) XE hE6; dsimp only))
 all_goals
   (try simp only [Exit.inBlock, Exit.then])
   go_wp2_with (fail)
   refine bodyPost_ret (v := .tuple #[.pointer (some ⟨g, 0, none⟩), .int .i64 0]) (by simp [results, Tryz.results38, go_sem]) rfl ?_
   exact ⟨g, rfl, by have := hE12.size; omega, hp.ext (by with_reducible assumption), hE13.trans (by with_reducible assumption)⟩
end K80
namespace K81
open Go Go.RowKit
open KB KB2 KB3 K1 K6 K7 K8 K9 K17 K19 P5 K25 K31 K34 K35 K36 K37 K46 K38 K42 K54 K56 K57 K58 K65 K70 K71 K72 K75 K77 K80
theorem openSC (F : Nat → Prop) (dg mg : Nat) (D : Dsk) (w : World) (h : DiskAt F w dg mg D) (s : Sch) (hs : s.Ok) (A : Option Addr) (c : Nat) (hA : SchAt (DF F dg mg) w A c s) (n : Nat) (hn : n ≤ 40)
   (hload : ∀ W, Ext w W → Calls Tryz.prog 36 #[BX dg, schV A c s] W fun e w' => ∃ As cs Ai ci, e = .returned (.tuple #[stV As cs s Ai ci (idsTo n) n, .int .i64 0]) ∧ SchAt (DF F dg mg) w' As cs s ∧ (rdInt .i64).Sl (DF F dg mg) w' Ai ci (idsTo n) ∧ Ext W w')
   (parts : List (List Row)) (hpl : parts.length = n) (hparts : ∀ k (hk : k < parts.length), ∃ i fs, getA (nameS k) D.M = some i ∧ D.files[i]? = some (partB s parts[k], fs) ∧ PartOk s parts[k])
   (hl : D.lim + 12 ≤ 100000) (hM : D.M.length < 200) (hno : getA newS D.M = none) (hem : getA emp D.M = none) (b : List Int) (hbb : b = recHead s (idsTo n) n) (hu : used D.fs + b.length ≤ D.quota) (hb7 : b.length ≤ 10000000)
   (hst : ∀ nm ∈ (saved D b 6).M.map (·.1), nm ∈ stays (idsTo n)) (hF : ∀ k, F k → k < w.heap.size) :
   Calls Tryz.prog 16 #[BX dg, schV A c s] w fun e w' => ∃ tg pv, e = .returned (.tuple #[PX tg, .int .i64 0]) ∧ w.heap.size ≤ tg ∧ (∀ k, pv.ownBlock = some k → w.heap.size ≤ k) ∧ StoreAt F w' tg dg mg pv ⟨s, idsTo n, n, parts, saved D b 6⟩ ∧ Keep (Two' dg mg) w w' := by
 obtain ⟨x, hx⟩ : ∃ x, w.heap.size = x := ⟨_, rfl⟩
 have hxl : w.heap.size ≤ x := Nat.le_of_eq hx
 have hDF := DFlt h hF
 have hn2 := hs.n2
 have hE1 := (Ext.refl w).alloc (.cells #[.slice A s.types.length c, .int .i64 s.keys, .int .i64 s.mode, .int .i64 s.grain] 27)
 have B1 := bN w (.cells #[.slice A s.types.length c, .int .i64 s.keys, .int .i64 s.mode, .int .i64 s.grain] 27)
 rw [hx] at B1
 have HL := As.mk hload
 have HP := As.mk hparts
 have HB := As.mk hbb
 have HS := As.mk hst
 have HU := As.mk hu
 have HPL := As.mk hpl
 have hil := As.mk (idsTo_len n)
 clear hload hparts hbb hst hu hpl
 go_enter Tryz.func16, Tryz.ntmps16
 (have p0 := bC (B1) 0; have p1 := bC (B1) 1; have p2 := bC (B1) 2; have p3 := bC (B1) 3)
 go_wp2_with (fail)
 generalize w.alloc (.cells #[.slice A s.types.length c, .int .i64 s.keys, .int .i64 s.mode, .int .i64 s.grain] 27) = w1 at *
 refine (checkC _ A c s w1 (Rd.Sl.ext hA hE1) hs).mono ?_; rintro e w2 ⟨rfl, hE2⟩
 clear p0 p1 p2 p3
 have hE12 := hE1.trans hE2
 replace B1 := hE2.blk B1
 (have p0 := bC (B1) 0; have p1 := bC (B1) 1; have p2 := bC (B1) 2; have p3 := bC (B1) 3)
 go_wp2_with (fail)
 refine (HL.out w2 hE12).mono ?_; rintro e w3 ⟨As, cs, Ai, ci, rfl, hsA, hsi, hE3⟩
 clear p0 p1 p2 p3
 have hE13 := hE12.trans hE3
 replace B1 := hE3.blk B1
 have B2 := bN w3 (.cells #[.slice As s.types.length cs, .int .i64 s.keys, .int .i64 s.mode, .int .i64 s.grain, .slice Ai (idsTo n).length ci, .int .i64 n] 82)
 have hE4 := (Ext.refl w3).alloc (.cells #[.slice As s.types.length cs, .int .i64 s.keys, .int .i64 s.mode, .int .i64 s.grain, .slice Ai (idsTo n).length ci, .int .i64 n] 82)
 obtain ⟨y, hy⟩ : ∃ y, w3.heap.size = y := ⟨_, rfl⟩
 rw [hy] at B2
 have hxy : x < y := by have := blk_lt B1; omega
 have B3 := bN (w3.alloc (.cells #[.slice As s.types.length cs, .int .i64 s.keys, .int .i64 s.mode, .int .i64 s.grain, .slice Ai (idsTo n).length ci, .int .i64 n] 82)) (.cells #[BX dg, .slice As s.types.length cs, .int .i64 s.keys, .int .i64 s.mode, .int .i64 s.grain, .slice Ai (idsTo n).length ci, .int .i64 n, .slice none 0 0, .bool false] 85)
 have hE5 := hE4.alloc (.cells #[BX dg, .slice As s.types.length cs, .int .i64 s.keys, .int .i64 s.mode, .int .i64 s.grain, .slice Ai (idsTo n).length ci, .int .i64 n, .slice none 0 0, .bool false] 85)
 simp only [World.size_alloc, hy] at B3
 (have q0 := bC (B2) 0; have q1 := bC (B2) 1; have q2 := bC (B2) 2; have q3 := bC (B2) 3; have q4 := bC (B2) 4; have q5 := bC (B2) 5)
 (have p0 := bC (hE5.blk B1) 0; have p1 := bC (hE5.blk B1) 1; have p2 := bC (hE5.blk B1) 2; have p3 := bC (hE5.blk B1) 3)
 rw [← hy] at q0 q1 q2 q3 q4 q5
 go_wp2_with (fail)
 have hs5 : ((w3.alloc (.cells #[.slice As s.types.length cs, .int .i64 s.keys, .int .i64 s.mode, .int .i64 s.grain, .slice Ai (idsTo n).length ci, .int .i64 n] 82)).alloc (.cells #[BX dg, .slice As s.types.length cs, .int .i64 s.keys, .int .i64 s.mode, .int .i64 s.grain, .slice Ai (idsTo n).length ci, .int .i64 n, .slice none 0 0, .bool false] 85)).heap.size = y + 1 + 1 := by simp [hy]
 replace B2 := bO2 (o' := .cells #[BX dg, .slice As s.types.length cs, .int .i64 s.keys, .int .i64 s.mode, .int .i64 s.grain, .slice Ai (idsTo n).length ci, .int .i64 n, .slice none 0 0, .bool false] 85) B2
 generalize ((w3.alloc (.cells #[.slice As s.types.length cs, .int .i64 s.keys, .int .i64 s.mode, .int .i64 s.grain, .slice Ai (idsTo n).length ci, .int .i64 n] 82)).alloc (.cells #[BX dg, .slice As s.types.length cs, .int .i64 s.keys, .int .i64 s.mode, .int .i64 s.grain, .slice Ai (idsTo n).length ci, .int .i64 n, .slice none 0 0, .bool false] 85)) = w5 at *
 replace B1 := hE5.blk B1
 clear p0 p1 p2 p3 q0 q1 q2 q3 q4 q5 hE4
 obtain ⟨tg, htg⟩ : ∃ tg, y + 1 = tg := ⟨_, rfl⟩
 rw [htg] at B3 hs5 ⊢
 have hE15 := hE13.trans hE5
 have hw3 := hE13.size
 have hlt := h.lt
 have hFt : ∀ k, F k → ¬ k = tg := fun k q e => by have := hF k q; omega
 have hN0 : ∀ k, k < w.heap.size → Fv (SF F tg dg mg) (.slice none 0 0) k → DF F dg mg k := fun k hk q => by
   rcases q with ((q | q) | q) | q
   · exact .inl q
   · omega
   · exact .inr q
   · cases q
 have hG5 : ∀ k, Fv (SF F tg dg mg) (.slice none 0 0) k → k < w5.heap.size := fun k q => by
   rcases q with ((q | q) | (q | q)) | q
   · have := hF k q; omega
   · omega
   · omega
   · omega
   · cases q
 refine (cloneI (Fv (SF F tg dg mg) (.slice none 0 0)) A c s.types w5 ((Rd.Sl.narrow (by decide) hA hN0).ext hE15) (by omega) hG5).mono ?_; rintro e w6 ⟨A6, c6, rfl, hs6, hE6⟩
 have hE16 := hE15.trans hE6
 replace B1 := hE6.blk B1
 replace B2 := hE6.blk B2
 replace B3 := hE6.blk B3
 have nyt : ¬ y = tg := by omega
 (have q0 := bC (B2) 0; have q1 := bC (B2) 1; have q2 := bC (B2) 2; have q3 := bC (B2) 3; have q4 := bC (B2) 4; have q5 := bC (B2) 5)
 (have z0 := bC (B3) 0; have zf0 := bF (B3) 0; have z1 := bC (B3) 1; have zf1 := bF (B3) 1; have z2 := bC (B3) 2; have zf2 := bF (B3) 2; have z3 := bC (B3) 3; have zf3 := bF (B3) 3; have z4 := bC (B3) 4; have zf4 := bF (B3) 4; have z5 := bC (B3) 5; have zf5 := bF (B3) 5; have z6 := bC (B3) 6; have zf6 := bF (B3) 6; have z7 := bC (B3) 7; have zf7 := bF (B3) 7; have z8 := bC (B3) 8; have zf8 := bF (B3) 8)
 go_wp2_with (fail)
 have B4 := bS B3 1 (.slice A6 s.types.length c6)
 have k4 := kS1 w6 tg 1 (.slice A6 s.types.length c6)
 have hpl := HPL.out
 have hN3 : ∀ k, k < w3.heap.size → Fv (SF F tg dg mg) (.slice none 0 0) k → DF F dg mg k := fun k hk q => by
   rcases q with ((q | q) | q) | q
   · exact .inl q
   · omega
   · exact .inr q
   · cases q
 have kS : Keep (Fv (SF F tg dg mg) (.slice none 0 0)) w6 (w6.setCell ⟨tg, 1, none⟩ (.slice A6 s.types.length c6)) := k4.mono (fun k _ q => .inl (.inl (.inr q)))
 have hI0 := (hsi.narrow (by decide) hN3).ext (hE5.trans hE6)
 have hST : StoreAt F (w6.setCell ⟨tg, 1, none⟩ (.slice A6 s.types.length c6)) tg dg mg (.slice none 0 0) ⟨s, idsTo n, n, parts.take 0, D⟩ := by
   refine ⟨fun q => hFt tg q rfl, by omega, by omega, ?_, Rd.Own.nil _ _ _ _ _, (fun k hk => by cases hk), A6, c6, Ai, ci, B4, ?_, ?_⟩
   · refine ((disk_narrow (G := Fv (fun k => F k ∨ k = tg) (.slice none 0 0)) h (fun k hk q => ?_)).ext hE16).keep (k4.mono (fun k _ q => .inl (.inr q)))
     rcases q with (q | q) | q
     · exact q
     · omega
     · cases q
   · exact Rd.Sl.keep hs6 kS
   · exact hI0.keep kS
 replace hI0 := hI0.keep kS
 have hE17 : Ext w (w6.setCell ⟨tg, 1, none⟩ (.slice A6 s.types.length c6)) := hE16.keepNew k4 (fun k q => by omega)
 replace B1 := k4.blk (by omega : ¬ x = tg) B1
 have hnt : w.heap.size ≤ tg := by omega
 have htl : tg < (w6.setCell ⟨tg, 1, none⟩ (.slice A6 s.types.length c6)).heap.size := blk_lt B4
 clear z0 z1 z2 z3 z4 z5 z6 z7 z8 zf0 zf1 zf2 zf3 zf4 zf5 zf6 zf7 zf8 q0 q1 q2 q3 q4 q5 B2 B3 B4 hs6 hsi hsA kS k4 hE15 hE16 hE6 hE5 hE3 hE2 hE1 hE12 hE13 hG5 hN3
 generalize w6.setCell ⟨tg, 1, none⟩ (.slice A6 s.types.length c6) = w7 at *
 clear hpl
 go_loopw [43] (fun i wr => ∃ (k : Nat) (pv : Value), i = .int .i64 k ∧ k ≤ n ∧ StoreAt F wr tg dg mg pv ⟨s, idsTo n, n, parts.take k, D⟩ ∧ Keep (fun k => k = tg) w7 wr ∧ (∀ j, pv.ownBlock = some j → w7.heap.size ≤ j)) (fun i _ => n - (intOf i).toNat)
 case atStart => exact ⟨0, _, by go_num, Nat.zero_le _, hST, Keep.refl _ _, fun j hj => by cases hj⟩
 case round =>
   obtain ⟨k, pv, rfl, hkn, hst, hk, hpv⟩ := hrel
   have C1 := hk.blk (by omega : ¬ x = tg) B1
   by_cases hlt' : k < n
   · have hkp : k < parts.length := by have := HPL.out; omega
     obtain ⟨i, fs, hi1, hi2, ho⟩ := HP.out k hkp
     have hge7 := hE17.size
     have hkI : Keep (Fv (SF F tg dg mg) (.slice none 0 0)) w7 wr := hk.mono (fun j _ q => .inl (.inl (.inr q)))
     obtain ⟨ba, oa, rfl, hca⟩ := int_get (hI0.keep hkI) (k := k) (by rw [hil.out]; exact hlt')
     have hgk : (idsTo n)[k]'(by rw [hil.out]; exact hlt') = (k : Int) := by simp [idsTo]
     rw [hgk] at hca
     have hF' : ∀ j, Fv (fun k => F k ∨ k = tg) pv j → j < wr.heap.size := fun j q => by
       rcases q with (q | q) | q
       · have := hF j q; have := hk.size; omega
       · have := hk.size; omega
       · exact (hst.parts.ge j q).2
     have hAr : SchAt (Fv (fun k => F k ∨ k = tg) pv) wr A c s := by
       refine Rd.Sl.keep (Rd.Sl.ext (Rd.Sl.narrow (by decide) hA (fun j hj q => ?_)) hE17) (hk.mono (fun j _ q => .inl (.inr q)))
       rcases q with (q | q) | q
       · exact .inl q
       · omega
       · have := hpv j q; omega
     have hod := openDC (Fv (fun k => F k ∨ k = tg) pv) dg mg D wr hst.disk A c s hAr k (by omega) i hi1 parts[k] ho fs hi2 hF'
     have HOD := KB.As.mk hod
     clear hod hi1 hi2
     have dk : k < (idsTo n).length := by rw [hil.out]; exact hlt'
     (have p0 := bC (C1) 0; have p1 := bC (C1) 1; have p2 := bC (C1) 2; have p3 := bC (C1) 3)
     go_wp2_with (fail)
     refine HOD.out.mono ?_; rintro e w8 ⟨g, rfl, hg, hp, hE8⟩
     clear p0 p1 p2 p3
     have h8 := hst.ext hE8
     obtain ⟨Ap, cp, hpve, hpsl⟩ := h8.sl
     have hlk : (parts.take k).length = k := by rw [List.length_take]; omega
     simp only [hlk] at hpve
     have hown := h8.parts
     obtain ⟨At, ct, Ait, cit, hbt, _, _⟩ := h8.at_
     have hEa := (Ext.refl w8).alloc (.cells #[PX g] 88)
     have hpg : PartAt (Fv (SF F tg dg mg) pv) w8 g s parts[k] := part_narrow hp (fun j _ q => by
       rcases q with ((q | q) | q) | q
       · exact .inl (.inl (.inl q))
       · exact .inl (.inl (.inr q))
       · exact .inr q
       · exact .inl (.inr q))
     have htl8 : tg < (w8.alloc (.cells #[PX g] 88)).heap.size := blk_lt (hEa.blk hbt)
     have hpt : ¬ pv.ownBlock = some tg := fun e => hst.far tg e (.inl (.inr rfl))
     subst hpve
     (have z0 := bC (hbt) 0; have z1 := bC (hbt) 1; have z2 := bC (hbt) 2; have z3 := bC (hbt) 3; have z4 := bC (hbt) 4; have z5 := bC (hbt) 5; have z6 := bC (hbt) 6; have z7 := bC (hbt) 7; have z8 := bC (hbt) 8)
     (have q0 := bC (hEa.blk hbt) 0; have qf0 := bF (hEa.blk hbt) 0; have q1 := bC (hEa.blk hbt) 1; have qf1 := bF (hEa.blk hbt) 1; have q2 := bC (hEa.blk hbt) 2; have qf2 := bF (hEa.blk hbt) 2; have q3 := bC (hEa.blk hbt) 3; have qf3 := bF (hEa.blk hbt) 3; have q4 := bC (hEa.blk hbt) 4; have qf4 := bF (hEa.blk hbt) 4; have q5 := bC (hEa.blk hbt) 5; have qf5 := bF (hEa.blk hbt) 5; have q6 := bC (hEa.blk hbt) 6; have qf6 := bF (hEa.blk hbt) 6; have q7 := bC (hEa.blk hbt) 7; have qf7 := bF (hEa.blk hbt) 7; have q8 := bC (hEa.blk hbt) 8; have qf8 := bF (hEa.blk hbt) 8)
     have hwp : IntKind.i64.wrap ((k : Int) + 1) = (k : Int) + 1 := by rw [IntKind.wrap_i64]; omega
     have hownA := hown.ext hEa
     have hbA := hEa.blk hbt
     have hpA := hpg.ext hEa
     have HLK := KB.As.mk hlk
     have h8a := h8.ext hEa
     have hF8 : ∀ j, F j → j < (w8.alloc (.cells #[PX g] 88)).heap.size := fun j q => by have := hF j q; have := hk.size; have := hE8.size; have := hEa.size; omega
     clear hlk
     go_wp2_with (first | (at_builtin; refine wpList_pushAt rfl (.tmp 61) (.tmp 63) 83 rfl (rdPart s) elPart rfl hownA rfl (heap_alloc_new w8 _) (y := parts[k]) ⟨g, rfl, hpA⟩ (by show ((parts.take k).length + 1) * 8 ≤ _; rw [HLK.out]; omega) (by unfold maxLen; show (parts.take k).length + 1 ≤ _; rw [HLK.out]; omega) (Nat.zero_le _) ?_; intro v' w9 hown9 hg9 hat9; have hb9 := (hg9.block tg htl8 (fun e => hpt e.symm)).trans hbA; have z7' := bC hb9 7; have zf7' := bF hb9 7; obtain ⟨A9, c9, rfl, hc9, _⟩ := own_len hown9))
     obtain ⟨g5, g6⟩ := store_push h8a hF8 hown9 hg9 hat9
     have hT := take_snoc parts hkp
     have kg : Keep (fun j => (Value.slice Ap k cp).ownBlock = some j) (w8.alloc (.cells #[PX g] 88)) w9 := Keep.of_grown hg9 (fun j hj _ => hj)
     have ks := kS1 w9 tg 7 (.slice A9 (parts.take k ++ [parts[k]]).length c9)
     have kT : Keep (fun k => k = tg) w7 (w9.setCell ⟨tg, 7, none⟩ (.slice A9 (parts.take k ++ [parts[k]]).length c9)) :=
       ((hk.post (hE8.trans hEa)).newB kg (fun j q => .inr (hpv j q))).trans ks
     have hnw : ∀ j, (Value.slice A9 (parts.take k ++ [parts[k]]).length c9).ownBlock = some j → w7.heap.size ≤ j := fun j hj => by
       rcases hat9 with q | q
       · exact hpv j (q ▸ hj)
       · rw [q] at hj; cases hj; exact Nat.le_trans hk.size (Nat.le_trans hE8.size hEa.size)
     clear g6 ks kg
     simp only [← hT, List.length_take] at g5 kT hnw
     go_roundw
     case rel =>
       exact ⟨k + 1, _, by go_num, by omega, g5, kT, hnw⟩
     case measure => simp [intOf] <;> omega
   · obtain rfl : k = n := by omega
     have hTn : parts.take k = parts := List.take_of_length_le (by have := HPL.out; omega)
     rw [hTn] at hst
     have dk : ¬ k < (idsTo k).length := by rw [hil.out]; exact hlt'
     go_wp2_with (fail)
     have hLit := bN wr (.cells #[.func (.func 39) #[] #[], .func (.func 40) #[] #[]] 110)
     have hEl := (Ext.refl wr).alloc (.cells #[.func (.func 39) #[] #[], .func (.func 40) #[] #[]] 110)
     have hF' : ∀ j, Fv (fun k => F k ∨ k = tg) pv j → j < wr.heap.size := fun j q => by
       rcases q with (q | q) | q
       · have := hF j q; have := hk.size; have := hE17.size; omega
       · have := hk.size; omega
       · exact (hst.parts.ge j q).2
     have hst' := hst.ext hEl
     generalize wr.alloc (.cells #[.func (.func 39) #[] #[], .func (.func 40) #[] #[]] 110) = wl at *
     have hF'l := FExt hF' hEl
     obtain ⟨lt, hlt2⟩ : ∃ lt, wr.heap.size = lt := ⟨_, rfl⟩
     rw [hlt2] at hLit
     obtain ⟨ft, td, tm, hd, hpp, hf, Aq, cq, Aj, cj, hbt, hAq, hIq⟩ := hst'
     have hperm : ∀ j, DF (Fv (fun k => F k ∨ k = tg) pv) dg mg j → Fv (SF F tg dg mg) pv j := fun j q => by
       rcases q with (q | q) | q
       · exact .inl (.inl q)
       · exact .inr q
       · exact .inl (.inr q)
     (have z0 := bC (hbt) 0; have z1 := bC (hbt) 1; have z2 := bC (hbt) 2; have z3 := bC (hbt) 3; have z4 := bC (hbt) 4; have z5 := bC (hbt) 5; have z6 := bC (hbt) 6; have z7 := bC (hbt) 7; have z8 := bC (hbt) 8)
     have l0 := bC hLit 0
     have l1 := bC hLit 1
     refine wp_loop_rounds 3 ?_
     rw [rounds_succ]
     go_wp2_with (fail)
     refine (saveC (Fv (fun k => F k ∨ k = tg) pv) dg mg D wl hd hl hF'l s hs Aq Aj cq cj (idsTo k) k (Rd.Sl.narrow (by decide) hAq (fun j _ q => hperm j q)) (hIq.narrow (by decide) (fun j _ q => hperm j q)) (by rw [hil.out]; omega) (fun m hm => by obtain ⟨j, hj, rfl⟩ := List.mem_map.1 hm; have := List.mem_range.1 hj; omega) (by omega) hM hno hem b HB.out HU.out hb7).mono ?_
     rintro e wm ⟨rfl, hdm, km⟩
     clear z0 z1 z2 z3 z4 z5 z6 z7 z8 l0 l1
     have hnd : ¬ (tg = dg ∨ tg = mg) := by rintro (q | q) <;> omega
     have hbm := km.blk hnd hbt
     have hwr := hst.disk.lt
     have hLm := km.blk (by rintro (q | q) <;> omega) hLit
     have hkS : Keep (Fv (SF F tg dg mg) pv) wl wm := km.mono (fun j _ q => .inl (.inr q))
     have hFm : ∀ j, Fv (fun k => F k ∨ k = tg) pv j → j < wm.heap.size := fun j q => Nat.lt_of_lt_of_le (hF'l j q) km.size
     (have z0 := bC (hbm) 0; have z1 := bC (hbm) 1; have z2 := bC (hbm) 2; have z3 := bC (hbm) 3; have z4 := bC (hbm) 4; have z5 := bC (hbm) 5; have z6 := bC (hbm) 6; have z7 := bC (hbm) 7; have z8 := bC (hbm) 8)
     have l1 := bC hLm 1
     go_wp2_with (fail)
     rw [rounds_succ]
     go_wp2_with (fail)
     refine (sweepC (Fv (fun k => F k ∨ k = tg) pv) dg mg (saved D b 6) wm hdm hFm s Aq Aj cq cj (idsTo k) k (Rd.Sl.narrow (by decide) (hIq.keep hkS) (fun j _ q => hperm j (.inl q))) (by rw [hil.out]; omega) (fun m hm => by obtain ⟨j, hj, rfl⟩ := List.mem_map.1 hm; have := List.mem_range.1 hj; omega) HS.out).mono ?_
     rintro e wn ⟨rfl, hEn⟩
     clear z0 z1 z2 z3 z4 z5 z6 z7 z8 l1
     go_wp2_with (fail)
     rw [rounds_succ]
     go_wp2_with (fail)
     refine bodyPost_ret (v := .tuple #[PX tg, .int .i64 0]) (by simp [results, Tryz.results16, go_sem]) rfl ?_
     have hEr : Ext w wr := hE17.keepNew hk (fun j q => by omega)
     refine ⟨tg, pv, rfl, hnt, fun j hj => by have := hpv j hj; have := hE17.size; omega, ⟨ft, td, tm, hdm.ext hEn, ?_, hf, Aq, cq, Aj, cj, hEn.blk hbm, Rd.Sl.ext (Rd.Sl.keep hAq hkS) hEn, (hIq.keep hkS).ext hEn⟩, (((hEr.trans hEl).keep _).trans km).post hEn⟩
     exact (hpp.keep2 hkS (fun j hj => km.block j (hpp.ge j hj).2 (fun q => hf j hj (.inr q)))).ext hEn
end K81
end Go.Proofs.YtbjeejimedhniaaGreatDoor
