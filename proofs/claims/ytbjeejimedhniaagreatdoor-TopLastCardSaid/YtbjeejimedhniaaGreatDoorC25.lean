/- Contracts of the program's functions, as the walks of the law use them. -/
import Derived.Test.YtbjeejimedhniaaGreatDoorC24
import Derived.WalkMore
import Derived.Test.YtbjeejimedhniaaGreatDoorC19
import Derived.Test.YtbjeejimedhniaaGreatDoorC21
import Derived.Test.YtbjeejimedhniaaGreatDoorC18
import Derived.Test.YtbjeejimedhniaaGreatDoorC11
import Derived.BigRegion
import Derived.RegionTactic
namespace Go.Proofs.YtbjeejimedhniaaGreatDoor
namespace K78
open Go Go.RowKit
open KB KB2 KB3 K1 K6 K7 K8 K9 K22 K24 K25 K28 K31 K76 K77
set_option linter.unusedVariables false
set_option linter.unusedSimpArgs false
set_option maxHeartbeats 2000000
set_option maxRecDepth 100000
theorem recAdd_pos (n : Nat) : 0 < (recAdd n).length := by simp only [recAdd, frame]; simp [bodyAdd]; omega
theorem adds_cat {j n : Nat} (h : j ≤ n) : ∃ r, adds n = adds j ++ r ∧ (j < n → ∃ r', r = recAdd j ++ r') := by
  induction n with
  | zero => obtain rfl : j = 0 := by omega
            exact ⟨[], by simp, fun h => absurd h (by omega)⟩
  | succ m ih =>
    by_cases q : j = m + 1
    · subst q
      exact ⟨[], by simp, fun h => absurd h (by omega)⟩
    · obtain ⟨r, h1, h2⟩ := ih (by omega)
      refine ⟨r ++ recAdd m, by rw [adds_succ, h1, List.append_assoc], fun _ => ?_⟩
      by_cases q2 : j = m
      · subst q2
        obtain rfl : r = [] := by
          have := congrArg List.length h1
          rw [List.length_append] at this
          exact List.eq_nil_of_length_eq_zero (by omega)
        exact ⟨[], by simp⟩
      · obtain ⟨r', h3⟩ := h2 (by omega)
        exact ⟨r' ++ recAdd m, by rw [h3, List.append_assoc]⟩
/-- How far a log is read, and what is known then. -/
def At78 (F : Nat → Prop) (s : Sch) (n : Nat) (x : Nat) (at_ : Nat) (w : World) : Prop :=
  (at_ = 0 ∧ w.heap[x + 1]? = some (.cells #[.slice none 0 0, .int .i64 0, .int .i64 0, .int .i64 0, .slice none 0 0, .int .i64 0] 82)) ∨
  ∃ (j : Nat) (As : Option Addr) (cs : Nat) (Ai : Option Addr) (ci : Nat), j ≤ n ∧ at_ = (recHead s [] 0).length + (adds j).length ∧ SchAt F w As cs s ∧ (rdInt .i64).Sl F w Ai ci (idsTo j) ∧ w.heap[x + 1]? = some (.cells #[.slice As s.types.length cs, .int .i64 s.keys, .int .i64 s.mode, .int .i64 s.grain, .slice Ai (idsTo j).length ci, .int .i64 j] 82)
theorem allRC (F : Nat → Prop) (A : Option Addr) (c : Nat) (s : Sch) (hs : s.Ok) (n : Nat) (hn : n ≤ 40) (b : List Int) (hb : b = recHead s [] 0 ++ adds n) (w : World) (hA : rdU8.Sl F w A c b) (hbl : b.length ≤ 100000) (hF : ∀ k, F k → k < w.heap.size) :
    Calls Tryz.prog 169 #[.slice A b.length c] w fun e w' => ∃ As cs Ai ci, e = .returned (.tuple #[stV As cs s Ai ci (idsTo n) n, .int .i64 b.length, .bool true]) ∧ SchAt F w' As cs s ∧ (rdInt .i64).Sl F w' Ai ci (idsTo n) ∧ Ext w w' := by
  obtain ⟨x, hx⟩ : ∃ x, w.heap.size = x := ⟨_, rfl⟩
  have hE1 := ((Ext.refl w).alloc (.cells #[.slice none 0 0, .int .i64 0, .int .i64 0, .int .i64 0, .slice none 0 0, .int .i64 0] 82)).alloc (.cells #[.slice none 0 0, .int .i64 0, .int .i64 0, .int .i64 0, .slice none 0 0, .int .i64 0] 82)
  have B1 := blk_old (o' := .cells #[.slice none 0 0, .int .i64 0, .int .i64 0, .int .i64 0, .slice none 0 0, .int .i64 0] 82) (blk_new w (.cells #[.slice none 0 0, .int .i64 0, .int .i64 0, .int .i64 0, .slice none 0 0, .int .i64 0] 82))
  have B2 := blk_new (w.alloc (.cells #[.slice none 0 0, .int .i64 0, .int .i64 0, .int .i64 0, .slice none 0 0, .int .i64 0] 82)) (.cells #[.slice none 0 0, .int .i64 0, .int .i64 0, .int .i64 0, .slice none 0 0, .int .i64 0] 82)
  rw [World.size_alloc, hx] at B2
  rw [hx] at B1
  go_enter Tryz.func169, Tryz.ntmps169
  go_wp2_with (fail)
  go_step3
  go_wp2_with (fail)
  generalize (w.alloc (.cells #[.slice none 0 0, .int .i64 0, .int .i64 0, .int .i64 0, .slice none 0 0, .int .i64 0] 82)).alloc (.cells #[.slice none 0 0, .int .i64 0, .int .i64 0, .int .i64 0, .slice none 0 0, .int .i64 0] 82) = w1 at *
  go_step3
  go_wp2_with (fail)
  have hwx : w.heap.size ≤ x := Nat.le_of_eq hx
  have hF1 : ∀ k, F k → k < x := fun k q => by have := hF k q; omega
  replace hA := (Rd.Sl.narrow (G := fun k => F k ∨ k = x ∨ k = x + 1) (by decide) hA (fun k q r => r.elim id (fun r => by omega))).ext hE1
  have hb0 : (recHead s [] 0).length + (adds n).length = b.length := by rw [hb, List.length_append]
  have HB := As.mk hb
  have HBL := As.mk hb0
  have hRH : As (0 < (recHead s [] 0).length) := ⟨by simp only [recHead, frame]; simp [bodyHead]; omega⟩
  clear hb hb0
  obtain ⟨L, hL⟩ : ∃ L, b.length = L := ⟨_, rfl⟩
  rw [hL] at hbl HBL
  have HL := As.mk hL
  clear hL
  rw [HL.out]
  go_loopw [6] (fun i wr => ∃ at_ : Nat, i = .int .i64 at_ ∧ at_ ≤ L ∧ At78 (fun k => F k ∨ k = x ∨ k = x + 1) s n x at_ wr ∧ Keep (fun k => k = x + 1) w1 wr) (fun i _ => L - (intOf i).toNat)
  case atStart => exact ⟨0, by go_num, Nat.zero_le _, .inl ⟨rfl, B2⟩, Keep.refl _ _⟩
  case round =>
    obtain ⟨at_, rfl, hal, hat, hk⟩ := hrel
    have hs1 : x + 1 < w1.heap.size := blk_lt B2
    have hsz := hk.size
    have hxr : x + 1 < wr.heap.size := by omega
    have hAr := hA.keep (hk.mono (fun k _ q => .inr (.inr q)))
    have C1 := hk.blk (by omega : ¬ x = x + 1) B1
    by_cases hlt : at_ < L
    · obtain ⟨l, hl⟩ : ∃ l, l = b.drop at_ := ⟨_, rfl⟩
      have hll : l.length = L - at_ := by rw [hl, List.length_drop, HL.out]
      obtain ⟨A1, hsl1, hS1⟩ := hAr.suf elU8 at_ l.length at_ (by rw [HL.out]; exact hal) rfl (by rw [HL.out, hll])
      rw [← hl] at hS1
      rw [HL.out] at hsl1
      have hFr : ∀ k, (F k ∨ k = x ∨ k = x + 1) → k < wr.heap.size := fun k q => q.elim (fun q => by have := hF1 k q; omega) (fun q => by omega)
      have HLL := As.mk hll
      rcases hat with ⟨rfl, hB⟩ | ⟨j, As2, cs2, Ai2, ci2, hj, hat, hs2, hi2, hB⟩
      · have ht := fun W hW => takeHeadC (fun k => F k ∨ k = x ∨ k = x + 1) A c s hs [] (by simp) (by simp) 0 (by omega) (adds n) b HB.out W hW (by rw [HL.out]; omega)
        rw [HL.out] at ht
        clear hl hll hsl1 hS1
        go_wp2_with (fail)
        refine (ht wr hAr hFr).mono ?_; rintro e w2 ⟨As2, cs2, Ai2, ci2, rfl, hs2, hi2, hE2⟩
        have B3 := blk_new w2 (.cells #[.int .i64 1, .slice As2 s.types.length cs2, .int .i64 s.keys, .int .i64 s.mode, .int .i64 s.grain, .slice Ai2 0 ci2, .int .i64 0] 92)
        have hE3 := (Ext.refl w2).alloc (.cells #[.int .i64 1, .slice As2 s.types.length cs2, .int .i64 s.keys, .int .i64 s.mode, .int .i64 s.grain, .slice Ai2 0 ci2, .int .i64 0] 92)
        have hxw2 : x + 1 < w2.heap.size := by have := hE2.size; omega
        obtain ⟨y, hy⟩ : ∃ y, w2.heap.size = y := ⟨_, rfl⟩
        rw [hy] at B3
        have B4 := (hE2.trans hE3).blk hB
        (have r0 := blk_cell (B3) 0; have r1 := blk_cell (B3) 1; have r2 := blk_cell (B3) 2; have r3 := blk_cell (B3) 3; have r4 := blk_cell (B3) 4; have r5 := blk_cell (B3) 5; have r6 := blk_cell (B3) 6)
        (have q0 := blk_cell (B4) 0; have q1 := blk_cell (B4) 1; have q2 := blk_cell (B4) 2; have q3 := blk_cell (B4) 3; have q4 := blk_cell (B4) 4; have q5 := blk_cell (B4) 5)
        rw [← hy] at r0 r1 r2 r3 r4 r5 r6
        go_wp2_with (fail)
        generalize (w2.alloc (.cells #[.int .i64 1, .slice As2 s.types.length cs2, .int .i64 s.keys, .int .i64 s.mode, .int .i64 s.grain, .slice Ai2 0 ci2, .int .i64 0] 92)) = w3 at *
        refine (applyHead0 (fun k => F k ∨ k = x ∨ k = x + 1) none none 0 0 ⟨[], 0, 0, 0⟩ [] 0 As2 Ai2 cs2 ci2 s hs 0 (by omega) w3 (Rd.Sl.ext hs2 hE3) (hi2.ext hE3) (FExt hFr (hE2.trans hE3))).mono ?_; rintro e w4 ⟨Ai4, ci4, rfl, hi4, hE4⟩
        have hE14 := (hE2.trans hE3).trans hE4
        have B5 := blk_new w4 (.cells #[.slice As2 s.types.length cs2, .int .i64 s.keys, .int .i64 s.mode, .int .i64 s.grain, .slice Ai4 0 ci4, .int .i64 0] 82)
        have hE5 := hE14.alloc (.cells #[.slice As2 s.types.length cs2, .int .i64 s.keys, .int .i64 s.mode, .int .i64 s.grain, .slice Ai4 0 ci4, .int .i64 0] 82)
        have hB5 := hE5.blk hB
        (have p0 := blk_cell (B5) 0; have p1 := blk_cell (B5) 1; have p2 := blk_cell (B5) 2; have p3 := blk_cell (B5) 3; have p4 := blk_cell (B5) 4; have p5 := blk_cell (B5) 5)
        (have z0 := blk_cell (hB5) 0; have zf0 := blk_froz (hB5) 0; have z1 := blk_cell (hB5) 1; have zf1 := blk_froz (hB5) 1; have z2 := blk_cell (hB5) 2; have zf2 := blk_froz (hB5) 2; have z3 := blk_cell (hB5) 3; have zf3 := blk_froz (hB5) 3; have z4 := blk_cell (hB5) 4; have zf4 := blk_froz (hB5) 4; have z5 := blk_cell (hB5) 5; have zf5 := blk_froz (hB5) 5)
        have nx : ¬ w4.heap.size = x + 1 := by have := hE14.size; omega
        have hwp : IntKind.i64.wrap ((recHead s [] 0).length : Int) = ((recHead s [] 0).length : Int) := by rw [IntKind.wrap_i64]; have := HBL.out; omega
        go_wp2_with (fail)
        have P := put6 hB5 (.slice As2 s.types.length cs2) (.int .i64 s.keys) (.int .i64 s.mode) (.int .i64 s.grain) (.slice Ai4 0 ci4) (.int .i64 0)
        go_roundw
        case rel => exact ⟨(recHead s [] 0).length, by go_num, by have := HBL.out; omega, .inr ⟨0, As2, cs2, Ai4, ci4, Nat.zero_le _, by simp [adds], (Rd.Sl.ext hs2 (hE3.trans (hE4.alloc _))).keep (P.2.mono (fun k _ q => .inr (.inr q))), (hi4.ext ((Ext.refl w4).alloc _)).keep (P.2.mono (fun k _ q => .inr (.inr q))), P.1⟩, hk.trans ((hE5.keep _).trans P.2)⟩
        case measure => have := hRH.out; have := HBL.out; simp [intOf] <;> omega
      · have hjn : j < n := by
          rcases Nat.lt_or_ge j n with q | q
          · exact q
          · obtain rfl : j = n := by omega
            have := HBL.out; omega
        obtain ⟨r, hr1, hr2⟩ := adds_cat hj
        obtain ⟨r', rfl⟩ := hr2 hjn
        have hl2 : l = recAdd j ++ r' := by
          rw [hl, HB.out, hr1, ← List.append_assoc]
          exact List.drop_left' (by rw [List.length_append, hat])
        have hrl : (recAdd j).length ≤ L - at_ := by rw [← hll, hl2, List.length_append]; omega
        have ht := fun W hW => takeAddC (fun k => F k ∨ k = x ∨ k = x + 1) A1 (c - at_) j (by omega) r' l hl2 W hW (by rw [hll]; omega)
        have hat0 : As (0 < at_ ∧ at_ = (recHead s [] 0).length + (adds j).length) := ⟨by have := hRH.out; omega, hat⟩
        clear hl hl2 hll hr1 hr2 hat
        have d0 : ((at_ : Int) == 0) = false := beq_eq_false_iff_ne.mpr (by have := hat0.out; omega)
        have HRL := As.mk hrl
        clear hrl
        go_wp2_with (fail)
        refine (ht wr hS1 hFr).mono ?_; rintro e w2 ⟨rfl, hE2⟩
        have B3 := blk_new w2 (.cells #[.int .i64 2, .slice none 0 0, .int .i64 0, .int .i64 0, .int .i64 0, .slice none 0 0, .int .i64 j] 92)
        have hE3 := (Ext.refl w2).alloc (.cells #[.int .i64 2, .slice none 0 0, .int .i64 0, .int .i64 0, .int .i64 0, .slice none 0 0, .int .i64 j] 92)
        have hxw2 : x + 1 < w2.heap.size := by have := hE2.size; omega
        obtain ⟨y, hy⟩ : ∃ y, w2.heap.size = y := ⟨_, rfl⟩
        rw [hy] at B3
        have B4 := (hE2.trans hE3).blk hB
        (have r0 := blk_cell (B3) 0; have r1 := blk_cell (B3) 1; have r2 := blk_cell (B3) 2; have r3 := blk_cell (B3) 3; have r4 := blk_cell (B3) 4; have r5 := blk_cell (B3) 5; have r6 := blk_cell (B3) 6)
        (have q0 := blk_cell (B4) 0; have q1 := blk_cell (B4) 1; have q2 := blk_cell (B4) 2; have q3 := blk_cell (B4) 3; have q4 := blk_cell (B4) 4; have q5 := blk_cell (B4) 5)
        rw [← hy] at r0 r1 r2 r3 r4 r5 r6
        go_wp2_with (fail)
        generalize (w2.alloc (.cells #[.int .i64 2, .slice none 0 0, .int .i64 0, .int .i64 0, .int .i64 0, .slice none 0 0, .int .i64 j] 92)) = w3 at *
        refine (applyAddC (fun k => F k ∨ k = x ∨ k = x + 1) As2 Ai2 cs2 ci2 s (idsTo j) j j (by omega) (Int.le_refl _) (by rw [idsTo_len]; omega) w3 (hi2.ext (hE2.trans hE3)) (FExt hFr (hE2.trans hE3))).mono ?_; rintro e w4 ⟨Ai4, ci4, rfl, hi4, hE4⟩
        rw [← idsTo_succ] at hi4 ⊢
        have hE14 := (hE2.trans hE3).trans hE4
        have B5 := blk_new w4 (.cells #[.slice As2 s.types.length cs2, .int .i64 s.keys, .int .i64 s.mode, .int .i64 s.grain, .slice Ai4 (idsTo (j + 1)).length ci4, .int .i64 (j + 1)] 82)
        have hE5 := hE14.alloc (.cells #[.slice As2 s.types.length cs2, .int .i64 s.keys, .int .i64 s.mode, .int .i64 s.grain, .slice Ai4 (idsTo (j + 1)).length ci4, .int .i64 (j + 1)] 82)
        have hB5 := hE5.blk hB
        (have p0 := blk_cell (B5) 0; have p1 := blk_cell (B5) 1; have p2 := blk_cell (B5) 2; have p3 := blk_cell (B5) 3; have p4 := blk_cell (B5) 4; have p5 := blk_cell (B5) 5)
        (have z0 := blk_cell (hB5) 0; have zf0 := blk_froz (hB5) 0; have z1 := blk_cell (hB5) 1; have zf1 := blk_froz (hB5) 1; have z2 := blk_cell (hB5) 2; have zf2 := blk_froz (hB5) 2; have z3 := blk_cell (hB5) 3; have zf3 := blk_froz (hB5) 3; have z4 := blk_cell (hB5) 4; have zf4 := blk_froz (hB5) 4; have z5 := blk_cell (hB5) 5; have zf5 := blk_froz (hB5) 5)
        have nx : ¬ w4.heap.size = x + 1 := by have := hE14.size; omega
        have hwp : IntKind.i64.wrap ((at_ : Int) + ((recAdd j).length : Int)) = (at_ : Int) + ((recAdd j).length : Int) := by rw [IntKind.wrap_i64]; have := HRL.out; omega
        go_wp2_with (fail)
        have P := put6 hB5 (.slice As2 s.types.length cs2) (.int .i64 s.keys) (.int .i64 s.mode) (.int .i64 s.grain) (.slice Ai4 (idsTo (j + 1)).length ci4) (.int .i64 (j + 1))
        go_roundw
        case rel => exact ⟨at_ + (recAdd j).length, by go_num, by have := HRL.out; omega, .inr ⟨j + 1, As2, cs2, Ai4, ci4, hjn, by rw [adds_succ, List.length_append, hat0.out.2]; omega, (Rd.Sl.ext hs2 hE5).keep (P.2.mono (fun k _ q => .inr (.inr q))), (hi4.ext ((Ext.refl w4).alloc _)).keep (P.2.mono (fun k _ q => .inr (.inr q))), P.1⟩, hk.trans ((hE5.keep _).trans P.2)⟩
        case measure => have := recAdd_pos j; have := HRL.out; simp [intOf] <;> omega
    · obtain rfl : at_ = L := by omega
      rcases hat with ⟨rfl, hB⟩ | ⟨j, As2, cs2, Ai2, ci2, hj, hat, hs2, hi2, hB⟩
      · exact absurd HBL.out (by have := hRH.out; omega)
      · obtain rfl : j = n := by
          rcases Nat.lt_or_ge j n with q | q
          · obtain ⟨r, hr1, hr2⟩ := adds_cat hj
            obtain ⟨r', rfl⟩ := hr2 q
            have := congrArg List.length hr1
            have := recAdd_pos j
            have := HBL.out
            rw [hr1, List.length_append, List.length_append] at this
            omega
          · omega
        have d0 : decide (0 < at_) = true := decide_eq_true (by have := hRH.out; omega)
        have HAT := As.mk hat
        clear hat
        (have q0 := blk_cell (hB) 0; have q1 := blk_cell (hB) 1; have q2 := blk_cell (hB) 2; have q3 := blk_cell (hB) 3; have q4 := blk_cell (hB) 4; have q5 := blk_cell (hB) 5)
        (have z0 := blk_cell (C1) 0; have zf0 := blk_froz (C1) 0; have z1 := blk_cell (C1) 1; have zf1 := blk_froz (C1) 1; have z2 := blk_cell (C1) 2; have zf2 := blk_froz (C1) 2; have z3 := blk_cell (C1) 3; have zf3 := blk_froz (C1) 3; have z4 := blk_cell (C1) 4; have zf4 := blk_froz (C1) 4; have z5 := blk_cell (C1) 5; have zf5 := blk_froz (C1) 5)
        go_wp2_with (fail)
        simp only [Exit.noGoto_ret]
        have P := put6 C1 (.slice As2 s.types.length cs2) (.int .i64 s.keys) (.int .i64 s.mode) (.int .i64 s.grain) (.slice Ai2 (idsTo j).length ci2) (.int .i64 j)
        (have e0 := blk_cell (P.1) 0; have e1 := blk_cell (P.1) 1; have e2 := blk_cell (P.1) 2; have e3 := blk_cell (P.1) 3; have e4 := blk_cell (P.1) 4; have e5 := blk_cell (P.1) 5)
        refine bodyPost_ret (v := .tuple #[stV As2 cs2 s Ai2 ci2 (idsTo j) j, .int .i64 at_, .bool true]) (by simp [results, Tryz.results169, go_sem, e0, e1, e2, e3, e4, e5, d0]) rfl ?_
        refine ⟨As2, cs2, Ai2, ci2, by rw [HL.out], ?_, ?_, ?_⟩
        · exact Rd.Sl.narrow (by decide) (Rd.Sl.keep hs2 (P.2.mono (fun k _ q => .inr (.inl q)))) (fun k _ q => .inl q)
        · exact Rd.Sl.narrow (by decide) (hi2.keep (P.2.mono (fun k _ q => .inr (.inl q)))) (fun k _ q => .inl q)
        · exact (hE1.keepNew hk (fun i q => by omega)).keepNew P.2 (fun i q => by omega)
end K78
namespace K79
open Go Go.RowKit
open KB KB2 KB3 K1 K6 K7 K8 K9 K14 P5 K25 K31 K34 K35 K42 K46 K50 K51 K54 K58 K75 K76 K77 K78
set_option linter.unusedVariables false
set_option linter.unusedSimpArgs false
set_option maxHeartbeats 2000000
set_option maxRecDepth 100000
theorem putSch_le (s : Sch) (hs : s.Ok) : (putSch s).length ≤ 68 := by rw [putSch, putN_length _ (nums_small hs), nums_length]; have := hs.n2; omega
theorem sameC (F : Nat → Prop) (A B : Option Addr) (c d : Nat) (s t : Sch) (hs : s.Ok) (ht : t.Ok) (w : World) (hA : SchAt F w A c s) (hB : SchAt F w B d t) (hF : ∀ k, F k → k < w.heap.size) :
    Calls Tryz.prog 86 #[schV A c s, schV B d t] w fun e w' => e = .returned (.bool (decide (putSch s = putSch t))) ∧ Ext w w' := by
  obtain ⟨x, hx⟩ : ∃ x, w.heap.size = x := ⟨_, rfl⟩
  have hE1 := ((Ext.refl w).alloc (.cells #[.slice A s.types.length c, .int .i64 s.keys, .int .i64 s.mode, .int .i64 s.grain] 27)).alloc (.cells #[.slice B t.types.length d, .int .i64 t.keys, .int .i64 t.mode, .int .i64 t.grain] 27)
  have B1 := blk_old (o' := .cells #[.slice B t.types.length d, .int .i64 t.keys, .int .i64 t.mode, .int .i64 t.grain] 27) (blk_new w (.cells #[.slice A s.types.length c, .int .i64 s.keys, .int .i64 s.mode, .int .i64 s.grain] 27))
  have B2 := blk_new (w.alloc (.cells #[.slice A s.types.length c, .int .i64 s.keys, .int .i64 s.mode, .int .i64 s.grain] 27)) (.cells #[.slice B t.types.length d, .int .i64 t.keys, .int .i64 t.mode, .int .i64 t.grain] 27)
  simp only [World.size_alloc, hx] at B1 B2
  go_enter Tryz.func86, Tryz.ntmps86
  go_wp2_with (fail)
  generalize (w.alloc (.cells #[.slice A s.types.length c, .int .i64 s.keys, .int .i64 s.mode, .int .i64 s.grain] 27)).alloc (.cells #[.slice B t.types.length d, .int .i64 t.keys, .int .i64 t.mode, .int .i64 t.grain] 27) = w1 at *
  have hA1 := Rd.Sl.ext hA hE1
  have hB1 := Rd.Sl.ext hB hE1
  have hF1 := FExt hF hE1
  have h1 := fun W (hW : Ext w1 W) => putSC F A c s W (hA1.ext hW) hs (FExt hF1 hW)
  have h2 := fun W (hW : Ext w1 W) => putSC F B d t W (hB1.ext hW) ht (FExt hF1 hW)
  have L1 : (putSch s).length ≤ 100000000 := by have := putSch_le s hs; omega
  have L2 : (putSch t).length ≤ 100000000 := by have := putSch_le t ht; omega
  (have p0 := blk_cell (B1) 0; have p1 := blk_cell (B1) 1; have p2 := blk_cell (B1) 2; have p3 := blk_cell (B1) 3)
  (have q0 := blk_cell (B2) 0; have q1 := blk_cell (B2) 1; have q2 := blk_cell (B2) 2; have q3 := blk_cell (B2) 3)
  have keep : ∀ w', Ext w1 w' → Ext w1 w' ∧ w'.cell? ⟨x, 0, none⟩ = some (.slice A s.types.length c) ∧ w'.cell? ⟨x, 1, none⟩ = some (.int .i64 s.keys) ∧ w'.cell? ⟨x, 2, none⟩ = some (.int .i64 s.mode) ∧ w'.cell? ⟨x, 3, none⟩ = some (.int .i64 s.grain) ∧ w'.cell? ⟨x + 1, 0, none⟩ = some (.slice B t.types.length d) ∧ w'.cell? ⟨x + 1, 1, none⟩ = some (.int .i64 t.keys) ∧ w'.cell? ⟨x + 1, 2, none⟩ = some (.int .i64 t.mode) ∧ w'.cell? ⟨x + 1, 3, none⟩ = some (.int .i64 t.grain) := fun w' h => ⟨h, h.cell p0, h.cell p1, h.cell p2, h.cell p3, h.cell q0, h.cell q1, h.cell q2, h.cell q3⟩
  clear p0 p1 p2 p3 q0 q1 q2 q3
  go_region_held3 (fun w' => Ext w1 w' ∧ w'.cell? ⟨x, 0, none⟩ = some (.slice A s.types.length c) ∧ w'.cell? ⟨x, 1, none⟩ = some (.int .i64 s.keys) ∧ w'.cell? ⟨x, 2, none⟩ = some (.int .i64 s.mode) ∧ w'.cell? ⟨x, 3, none⟩ = some (.int .i64 s.grain) ∧ w'.cell? ⟨x + 1, 0, none⟩ = some (.slice B t.types.length d) ∧ w'.cell? ⟨x + 1, 1, none⟩ = some (.int .i64 t.keys) ∧ w'.cell? ⟨x + 1, 2, none⟩ = some (.int .i64 t.mode) ∧ w'.cell? ⟨x + 1, 3, none⟩ = some (.int .i64 t.grain)) (((try dsimp only); refine keep _ ?_; first | with_reducible assumption | exact (by (repeat (first | with_reducible refine Ext.drew ?_ | with_reducible refine Ext.drewN ?_ _ | with_reducible refine Ext.alloc ?_ _)); first | with_reducible assumption | with_reducible exact Ext.refl _))) (first | (go_at_call 129; with_reducible refine Calls.mono (h1 _ ?_) ?_; exact (by (repeat (first | with_reducible refine Ext.drew ?_ | with_reducible refine Ext.drewN ?_ _ | with_reducible refine Ext.alloc ?_ _)); first | with_reducible assumption | with_reducible exact Ext.refl _); rintro e w2 ⟨A2, c2, rfl, hs2, hE2⟩; have hx2 := Ext.trans (a := w1) (by (repeat (first | with_reducible refine Ext.drew ?_ | with_reducible refine Ext.drewN ?_ _ | with_reducible refine Ext.alloc ?_ _)); first | with_reducible assumption | with_reducible exact Ext.refl _) hE2) | (go_at_call 129; with_reducible refine Calls.mono (h2 _ ?_) ?_; exact (by (repeat (first | with_reducible refine Ext.drew ?_ | with_reducible refine Ext.drewN ?_ _ | with_reducible refine Ext.alloc ?_ _)); first | with_reducible assumption | with_reducible exact Ext.refl _); rintro e w3 ⟨A3, c3, rfl, hs3, hE3⟩; have hx3 := Ext.trans (a := w1) (by (repeat (first | with_reducible refine Ext.drew ?_ | with_reducible refine Ext.drewN ?_ _ | with_reducible refine Ext.alloc ?_ _)); first | with_reducible assumption | with_reducible exact Ext.refl _) hE3) | (go_at_call 170; with_reducible refine Calls.mono (equalB F A2 A3 c2 c3 (putSch s) (putSch t) _ (by first | with_reducible exact hs2 | exact Rd.Sl.ext hs2 (by with_reducible assumption)) (by first | with_reducible exact hs3 | exact Rd.Sl.ext hs3 (by with_reducible assumption)) L1 L2) ?_; rintro e w4 ⟨rfl, hE4⟩; have hx4 := Ext.trans (a := w1) (by (repeat (first | with_reducible refine Ext.drew ?_ | with_reducible refine Ext.drewN ?_ _ | with_reducible refine Ext.alloc ?_ _)); first | with_reducible assumption | with_reducible exact Ext.refl _) hE4))
  go_wp2_with (fail)
  go_ret
  exact ⟨rfl, hE1.trans (by with_reducible assumption)⟩
theorem loadDC (F : Nat → Prop) (dg mg : Nat) (D : Dsk) (w : World) (h : DiskAt F w dg mg D) (s : Sch) (hs : s.Ok) (n : Nat) (hn : n ≤ 40) (i : Nat) (hi : getA logS D.M = some i) (fb : List Int) (fs : Int) (hf : D.files[i]? = some (fb, fs)) (hb : fb = recHead s [] 0 ++ adds n) (hbl : fb.length ≤ 100000) (hF : ∀ k, F k → k < w.heap.size) :
    Calls Tryz.prog 85 #[BX dg] w fun e w' => ∃ As cs Ai ci, e = .returned (.tuple #[stV As cs s Ai ci (idsTo n) n, .int .i64 0]) ∧ SchAt (DF F dg mg) w' As cs s ∧ (rdInt .i64).Sl (DF F dg mg) w' Ai ci (idsTo n) ∧ Ext w w' := by
  have hDF := DFlt h hF
  obtain ⟨x, hx⟩ : ∃ x, w.heap.size = x := ⟨_, rfl⟩
  have hE1 := (Ext.refl w).alloc (.cells #[.slice none 0 0, .int .i64 0, .int .i64 0, .int .i64 0, .slice none 0 0, .int .i64 0] 82)
  have B1 := blk_new w (.cells #[.slice none 0 0, .int .i64 0, .int .i64 0, .int .i64 0, .slice none 0 0, .int .i64 0] 82)
  have hG : ∀ k, (F k ∨ k = x) → k < (w.alloc (.cells #[.slice none 0 0, .int .i64 0, .int .i64 0, .int .i64 0, .slice none 0 0, .int .i64 0] 82)).heap.size := fun k q => q.elim (FExt hF hE1 k) (fun q => by rw [q, ← hx]; simp)
  have hD1 := (disk_narrow (G := fun k => F k ∨ k = x) h (fun k hk q => q.elim id (fun q => by omega))).ext hE1
  rw [hx] at B1
  have HB := As.mk hb
  clear hb
  have hr := readC (fun k => F k ∨ k = x) dg mg D _ hD1 logS (by decide) i hi fb fs hf hG
  go_enter Tryz.func85, Tryz.ntmps85
  go_wp2_with (fail)
  refine hr.mono ?_; rintro e w2 ⟨A, c, rfl, hA, hE2⟩
  clear hr
  have hE12 := hE1.trans hE2
  replace B1 := hE2.blk B1
  go_wp2_with (fail)
  refine (allRC (DF (fun k => F k ∨ k = x) dg mg) A c s hs n hn fb HB.out w2 hA hbl (FExt (DFlt hD1 hG) hE2)).mono ?_; rintro e w3 ⟨As, cs, Ai, ci, rfl, hsA, hsi, hE3⟩
  have B3 := blk_new w3 (.cells #[.slice As s.types.length cs, .int .i64 s.keys, .int .i64 s.mode, .int .i64 s.grain, .slice Ai (idsTo n).length ci, .int .i64 n] 82)
  have hE4 := (Ext.refl w3).alloc (.cells #[.slice As s.types.length cs, .int .i64 s.keys, .int .i64 s.mode, .int .i64 s.grain, .slice Ai (idsTo n).length ci, .int .i64 n] 82)
  have B4 := hE4.blk (hE3.blk B1)
  have hlt := blk_lt (hE3.blk B1)
  have hne : ¬ w3.heap.size = x := by omega
  have hEw := (hE12.trans hE3).trans hE4
  clear hlt
  (have p0 := blk_cell (B3) 0; have p1 := blk_cell (B3) 1; have p2 := blk_cell (B3) 2; have p3 := blk_cell (B3) 3; have p4 := blk_cell (B3) 4; have p5 := blk_cell (B3) 5)
  (have z0 := blk_cell (B4) 0; have zf0 := blk_froz (B4) 0; have z1 := blk_cell (B4) 1; have zf1 := blk_froz (B4) 1; have z2 := blk_cell (B4) 2; have zf2 := blk_froz (B4) 2; have z3 := blk_cell (B4) 3; have zf3 := blk_froz (B4) 3; have z4 := blk_cell (B4) 4; have zf4 := blk_froz (B4) 4; have z5 := blk_cell (B4) 5; have zf5 := blk_froz (B4) 5)
  go_wp2_with (fail)
  have P := put6 B4 (.slice As s.types.length cs) (.int .i64 s.keys) (.int .i64 s.mode) (.int .i64 s.grain) (.slice Ai (idsTo n).length ci) (.int .i64 n)
  (have e0 := blk_cell (P.1) 0; have e1 := blk_cell (P.1) 1; have e2 := blk_cell (P.1) 2; have e3 := blk_cell (P.1) 3; have e4 := blk_cell (P.1) 4; have e5 := blk_cell (P.1) 5)
  refine bodyPost_ret (v := .tuple #[stV As cs s Ai ci (idsTo n) n, .int .i64 0]) (by simp [results, Tryz.results85, go_sem, e0, e1, e2, e3, e4, e5]) rfl ?_
  exact ⟨As, cs, Ai, ci, rfl, Rd.Sl.narrow (by decide) (Rd.Sl.keep (Rd.Sl.ext hsA hE4) (P.2.mono (fun k _ q => .inl (.inr q)))) (fun k _ q => q.elim (fun q => .inl (.inl q)) .inr), Rd.Sl.narrow (by decide) ((hsi.ext hE4).keep (P.2.mono (fun k _ q => .inl (.inr q)))) (fun k _ q => q.elim (fun q => .inl (.inl q)) .inr), hEw.keepNew P.2 (fun i q => by omega)⟩
/-- Nothing is on the disk. -/
theorem load0C (F : Nat → Prop) (dg mg : Nat) (D : Dsk) (w : World) (h : DiskAt F w dg mg D) (A : Option Addr) (c : Nat) (s : Sch) (hno : getA logS D.M = none) (hF : ∀ k, F k → k < w.heap.size) :
    Calls Tryz.prog 36 #[BX dg, schV A c s] w fun e w' => e = .returned (.tuple #[stV A c s none 0 [] 0, .int .i64 0]) ∧ Ext w w' := by
  obtain ⟨x, hx⟩ : ∃ x, w.heap.size = x := ⟨_, rfl⟩
  have hE1 := ((Ext.refl w).alloc (.cells #[.slice A s.types.length c, .int .i64 s.keys, .int .i64 s.mode, .int .i64 s.grain] 27)).alloc (.cells #[.slice none 0 0, .int .i64 0, .int .i64 0, .int .i64 0, .slice none 0 0, .int .i64 0] 82)
  have B1 := blk_old (o' := .cells #[.slice none 0 0, .int .i64 0, .int .i64 0, .int .i64 0, .slice none 0 0, .int .i64 0] 82) (blk_new w (.cells #[.slice A s.types.length c, .int .i64 s.keys, .int .i64 s.mode, .int .i64 s.grain] 27))
  have B2 := blk_new (w.alloc (.cells #[.slice A s.types.length c, .int .i64 s.keys, .int .i64 s.mode, .int .i64 s.grain] 27)) (.cells #[.slice none 0 0, .int .i64 0, .int .i64 0, .int .i64 0, .slice none 0 0, .int .i64 0] 82)
  simp only [World.size_alloc, hx] at B1 B2
  go_enter Tryz.func36, Tryz.ntmps36
  go_wp2_with (fail)
  generalize (w.alloc (.cells #[.slice A s.types.length c, .int .i64 s.keys, .int .i64 s.mode, .int .i64 s.grain] 27)).alloc (.cells #[.slice none 0 0, .int .i64 0, .int .i64 0, .int .i64 0, .slice none 0 0, .int .i64 0] 82) = w1 at *
  refine (namesC F dg mg D _ (h.ext hE1) (FExt hF hE1)).mono ?_; rintro e w2 ⟨A2, c2, rfl, hN, hE2⟩
  go_wp2_with (fail)
  have hml := h.ml
  have hle := h.le
  have hcn := containsS F A2 c2 _ logS w2 hN (by simp; omega)
  rw [List.length_map] at hcn
  refine hcn.mono ?_; rintro e w3 ⟨⟨f, rfl, hf⟩, rfl⟩
  obtain rfl : f = false := by
    rcases f with _ | _
    · rfl
    · exact absurd (hf.1 rfl) (getA_none.1 hno)
  clear hcn hf hml hle
  have hE12 := hE1.trans hE2
  replace B1 := hE2.blk B1
  replace B2 := hE2.blk B2
  (have p0 := blk_cell (B1) 0; have p1 := blk_cell (B1) 1; have p2 := blk_cell (B1) 2; have p3 := blk_cell (B1) 3)
  (have z0 := blk_cell (B2) 0; have zf0 := blk_froz (B2) 0; have z1 := blk_cell (B2) 1; have zf1 := blk_froz (B2) 1; have z2 := blk_cell (B2) 2; have zf2 := blk_froz (B2) 2; have z3 := blk_cell (B2) 3; have zf3 := blk_froz (B2) 3; have z4 := blk_cell (B2) 4; have zf4 := blk_froz (B2) 4; have z5 := blk_cell (B2) 5; have zf5 := blk_froz (B2) 5)
  go_wp2_with (fail)
  have P := put6 B2 (.slice A s.types.length c) (.int .i64 s.keys) (.int .i64 s.mode) (.int .i64 s.grain) (.slice none 0 0) (.int .i64 0)
  (have e0 := blk_cell (P.1) 0; have e1 := blk_cell (P.1) 1; have e2 := blk_cell (P.1) 2; have e3 := blk_cell (P.1) 3; have e4 := blk_cell (P.1) 4; have e5 := blk_cell (P.1) 5)
  refine bodyPost_ret (v := .tuple #[stV A c s none 0 [] 0, .int .i64 0]) (by simp [results, Tryz.results36, go_sem, e0, e1, e2, e3, e4, e5]) rfl ?_
  exact ⟨rfl, hE12.keepNew P.2 (fun i q => by omega)⟩
/-- A log is on the disk. -/
theorem load1C (F : Nat → Prop) (dg mg : Nat) (D : Dsk) (w : World) (h : DiskAt F w dg mg D) (A : Option Addr) (c : Nat) (s : Sch) (hs : s.Ok) (hA : SchAt F w A c s) (n : Nat) (hn : n ≤ 40) (i : Nat) (hi : getA logS D.M = some i) (fb : List Int) (fs : Int) (hf : D.files[i]? = some (fb, fs)) (hb : fb = recHead s [] 0 ++ adds n) (hbl : fb.length ≤ 100000) (hF : ∀ k, F k → k < w.heap.size) :
    Calls Tryz.prog 36 #[BX dg, schV A c s] w fun e w' => ∃ As cs Ai ci, e = .returned (.tuple #[stV As cs s Ai ci (idsTo n) n, .int .i64 0]) ∧ SchAt (DF F dg mg) w' As cs s ∧ (rdInt .i64).Sl (DF F dg mg) w' Ai ci (idsTo n) ∧ Ext w w' := by
  obtain ⟨x, hx⟩ : ∃ x, w.heap.size = x := ⟨_, rfl⟩
  have hE1 := ((Ext.refl w).alloc (.cells #[.slice A s.types.length c, .int .i64 s.keys, .int .i64 s.mode, .int .i64 s.grain] 27)).alloc (.cells #[.slice none 0 0, .int .i64 0, .int .i64 0, .int .i64 0, .slice none 0 0, .int .i64 0] 82)
  have B1 := blk_old (o' := .cells #[.slice none 0 0, .int .i64 0, .int .i64 0, .int .i64 0, .slice none 0 0, .int .i64 0] 82) (blk_new w (.cells #[.slice A s.types.length c, .int .i64 s.keys, .int .i64 s.mode, .int .i64 s.grain] 27))
  have B2 := blk_new (w.alloc (.cells #[.slice A s.types.length c, .int .i64 s.keys, .int .i64 s.mode, .int .i64 s.grain] 27)) (.cells #[.slice none 0 0, .int .i64 0, .int .i64 0, .int .i64 0, .slice none 0 0, .int .i64 0] 82)
  simp only [World.size_alloc, hx] at B1 B2
  have hG : ∀ k, (F k ∨ k = x + 1) → k < ((w.alloc (.cells #[.slice A s.types.length c, .int .i64 s.keys, .int .i64 s.mode, .int .i64 s.grain] 27)).alloc (.cells #[.slice none 0 0, .int .i64 0, .int .i64 0, .int .i64 0, .slice none 0 0, .int .i64 0] 82)).heap.size := fun k q => q.elim (FExt hF hE1 k) (fun q => by rw [q, ← hx]; simp)
  have hD1 := (disk_narrow (G := fun k => F k ∨ k = x + 1) h (fun k hk q => q.elim id (fun q => by omega))).ext hE1
  have HB := As.mk hb
  have hml := h.ml
  have hle := h.le
  have hmx : D.M.length ≤ 1000000 := by omega
  clear hb hml hle
  go_enter Tryz.func36, Tryz.ntmps36
  go_wp2_with (fail)
  generalize (w.alloc (.cells #[.slice A s.types.length c, .int .i64 s.keys, .int .i64 s.mode, .int .i64 s.grain] 27)).alloc (.cells #[.slice none 0 0, .int .i64 0, .int .i64 0, .int .i64 0, .slice none 0 0, .int .i64 0] 82) = w1 at *
  refine (namesC _ dg mg D _ hD1 hG).mono ?_; rintro e w2 ⟨A2, c2, rfl, hN, hE2⟩
  go_wp2_with (fail)
  have hcn := containsS _ A2 c2 _ logS w2 hN (by simp; exact hmx)
  rw [List.length_map] at hcn
  refine hcn.mono ?_; rintro e w3 ⟨⟨f, rfl, hff⟩, rfl⟩
  clear hcn
  obtain rfl : f = true := hff.2 (List.mem_map.2 ⟨_, getA_mem hi, rfl⟩)
  clear hff
  have hE12 := hE1.trans hE2
  go_wp2_with (fail)
  refine (loadDC (fun k => F k ∨ k = x + 1) dg mg D _ (hD1.ext hE2) s hs n hn i hi fb fs hf HB.out hbl (FExt hG hE2)).mono ?_; rintro e w4 ⟨As, cs, Ai, ci, rfl, hsA, hsi, hE4⟩
  have B3 := blk_new w4 (.cells #[.slice As s.types.length cs, .int .i64 s.keys, .int .i64 s.mode, .int .i64 s.grain, .slice Ai (idsTo n).length ci, .int .i64 n] 82)
  have hE5 := (Ext.refl w4).alloc (.cells #[.slice As s.types.length cs, .int .i64 s.keys, .int .i64 s.mode, .int .i64 s.grain, .slice Ai (idsTo n).length ci, .int .i64 n] 82)
  have hE15 := (hE2.trans hE4).trans hE5
  obtain ⟨y, hy⟩ : ∃ y, w4.heap.size = y := ⟨_, rfl⟩
  rw [hy] at B3
  replace B1 := hE15.blk B1
  replace B2 := hE15.blk B2
  (have p0 := blk_cell (B1) 0; have p1 := blk_cell (B1) 1; have p2 := blk_cell (B1) 2; have p3 := blk_cell (B1) 3)
  (have q0 := blk_cell (B3) 0; have q1 := blk_cell (B3) 1; have q2 := blk_cell (B3) 2; have q3 := blk_cell (B3) 3; have q4 := blk_cell (B3) 4; have q5 := blk_cell (B3) 5)
  rw [← hy] at q0 q1 q2 q3 q4 q5
  go_wp2_with (fail)
  generalize w4.alloc (.cells #[.slice As s.types.length cs, .int .i64 s.keys, .int .i64 s.mode, .int .i64 s.grain, .slice Ai (idsTo n).length ci, .int .i64 n] 82) = w5 at *
  refine (sameC F As A cs c s s hs hs w5 (Rd.Sl.narrow (by decide) (Rd.Sl.ext hsA hE5) (fun k _ q => .inl (.inl q))) (Rd.Sl.ext hA (hE1.trans hE15)) (FExt hF (hE1.trans hE15))).mono ?_; rintro e w6 ⟨rfl, hE6⟩
  rw [decide_eq_true rfl]
  replace B2 := hE6.blk B2
  replace B3 := hE6.blk B3
  have hE16 := hE15.trans hE6
  clear p0 p1 p2 p3 q0 q1 q2 q3 q4 q5
  have nx : ¬ y = x + 1 := by have := blk_lt B2; have := (hE2.trans hE4).size; have := hG (x + 1) (.inr rfl); omega
  (have z0 := blk_cell (B2) 0; have zf0 := blk_froz (B2) 0; have z1 := blk_cell (B2) 1; have zf1 := blk_froz (B2) 1; have z2 := blk_cell (B2) 2; have zf2 := blk_froz (B2) 2; have z3 := blk_cell (B2) 3; have zf3 := blk_froz (B2) 3; have z4 := blk_cell (B2) 4; have zf4 := blk_froz (B2) 4; have z5 := blk_cell (B2) 5; have zf5 := blk_froz (B2) 5)
  (have q0 := blk_cell (B3) 0; have q1 := blk_cell (B3) 1; have q2 := blk_cell (B3) 2; have q3 := blk_cell (B3) 3; have q4 := blk_cell (B3) 4; have q5 := blk_cell (B3) 5)
  go_wp2_with (fail)
  have P := put6 B2 (.slice As s.types.length cs) (.int .i64 s.keys) (.int .i64 s.mode) (.int .i64 s.grain) (.slice Ai (idsTo n).length ci) (.int .i64 n)
  (have e0 := blk_cell (P.1) 0; have e1 := blk_cell (P.1) 1; have e2 := blk_cell (P.1) 2; have e3 := blk_cell (P.1) 3; have e4 := blk_cell (P.1) 4; have e5 := blk_cell (P.1) 5)
  refine bodyPost_ret (v := .tuple #[stV As cs s Ai ci (idsTo n) n, .int .i64 0]) (by simp [results, Tryz.results36, go_sem, e0, e1, e2, e3, e4, e5]) rfl ?_
  exact ⟨As, cs, Ai, ci, rfl, Rd.Sl.narrow (by decide) (Rd.Sl.keep (Rd.Sl.ext hsA (hE5.trans hE6)) (P.2.mono (fun k _ q => .inl (.inr q)))) (fun k _ q => q.elim (fun q => .inl (.inl q)) .inr), Rd.Sl.narrow (by decide) ((hsi.ext (hE5.trans hE6)).keep (P.2.mono (fun k _ q => .inl (.inr q)))) (fun k _ q => q.elim (fun q => .inl (.inl q)) .inr), (hE1.trans hE16).keepNew P.2 (fun i q => by omega)⟩
end K79
namespace K21
open Go Go.RowKit
open KB KB2 K1 K3 K9
set_option linter.unusedVariables false
set_option linter.unusedSimpArgs false
set_option maxHeartbeats 2000000
set_option maxRecDepth 100000
theorem schemaC (F : Nat → Prop) (A : Option Addr) (c : Nat) (s : Sch) (w : World) (hA : SchAt F w A c s) (hn : s.types.length ≤ 64) (hF : ∀ k, F k → k < w.heap.size) :
    Calls Tryz.prog 88 #[schV A c s] w fun e w' => ∃ A' c', e = .returned (schV A' c' s) ∧ SchAt F w' A' c' s ∧ Ext w w' := by
  have B1 := blk_old (o' := .cells #[.slice A s.types.length c, .int .i64 s.keys, .int .i64 s.mode, .int .i64 s.grain] 27) (blk_new (w.alloc (.cells #[.slice A s.types.length c, .int .i64 s.keys, .int .i64 s.mode, .int .i64 s.grain] 168)) (.cells #[.slice none 0 0, .int .i64 0, .int .i64 0, .int .i64 0] 27))
  have B2 := blk_new ((w.alloc (.cells #[.slice A s.types.length c, .int .i64 s.keys, .int .i64 s.mode, .int .i64 s.grain] 168)).alloc (.cells #[.slice none 0 0, .int .i64 0, .int .i64 0, .int .i64 0] 27)) (.cells #[.slice A s.types.length c, .int .i64 s.keys, .int .i64 s.mode, .int .i64 s.grain] 27)
  have hEb := (((Ext.refl w).alloc (.cells #[.slice A s.types.length c, .int .i64 s.keys, .int .i64 s.mode, .int .i64 s.grain] 168)).alloc (.cells #[.slice none 0 0, .int .i64 0, .int .i64 0, .int .i64 0] 27)).alloc (.cells #[.slice A s.types.length c, .int .i64 s.keys, .int .i64 s.mode, .int .i64 s.grain] 27)
  simp only [World.size_alloc] at B1 B2
  go_enter Tryz.func88, Tryz.ntmps88
  go_wp2_with (fail)
  generalize (((w.alloc (.cells #[.slice A s.types.length c, .int .i64 s.keys, .int .i64 s.mode, .int .i64 s.grain] 168)).alloc (.cells #[.slice none 0 0, .int .i64 0, .int .i64 0, .int .i64 0] 27)).alloc (.cells #[.slice A s.types.length c, .int .i64 s.keys, .int .i64 s.mode, .int .i64 s.grain] 27)) = wb at *
  have hlt1 := blk_lt B1
  have hlt2 := blk_lt B2
  refine (cloneI (fun k => F k ∨ k = w.heap.size + 1 ∨ k = w.heap.size + 1 + 1) A c s.types wb ?_ (by omega) (fun k hk => ?_)).mono ?_
  · refine Rd.Sl.ext (w := w) (Rd.Sl.narrow Nat.one_pos hA (fun k hk h => ?_)) hEb
    rcases h with h | h | h
    · exact h
    · omega
    · omega
  · rcases hk with h | h | h
    · exact FExt hF hEb k h
    · omega
    · omega
  rintro e w1 ⟨A1, c1, rfl, hs1, hE1⟩
  have D1 := hE1.blk B1
  have D2 := hE1.blk B2
  have x1 := blk_cell D2 1
  have x2 := blk_cell D2 2
  have x3 := blk_cell D2 3
  have x0 := blk_cell D2 0
  have fx0 := blk_froz D2 0
  have r0 := blk_cell D1 0
  have r1 := blk_cell D1 1
  have r2 := blk_cell D1 2
  have r3 := blk_cell D1 3
  have q0 := blk_froz D1 0
  have q1 := blk_froz D1 1
  have q2 := blk_froz D1 2
  have q3 := blk_froz D1 3
  go_wp2_with (fail)
  have D3 : (w1.setCell ⟨w.heap.size + 1 + 1, 0, none⟩ (.slice A1 s.types.length c1)).heap[w.heap.size + 1]? = _ := (Below.heap_setCell _ _ _ _ (by simp)).trans D1
  have B4 := blk_set (blk_set (blk_set (blk_set D3 0 (.slice A1 s.types.length c1)) 1 (.int .i64 s.keys)) 2 (.int .i64 s.mode)) 3 (.int .i64 s.grain)
  have e0 := blk_cell B4 0
  have e1 := blk_cell B4 1
  have e2 := blk_cell B4 2
  have e3 := blk_cell B4 3
  clear B4
  (try simp only [Exit.inBlock, Exit.then])
  refine bodyPost_ret (v := schV A1 c1 s) (by simp [results, Tryz.results88, go_sem, e0, e1, e2, e3, schV]) rfl ?_
  refine ⟨A1, c1, rfl, ?_, (((((hEb.trans hE1).setCell (a := ⟨w.heap.size + 1 + 1, 0, none⟩) (by show _ ≤ w.heap.size + 1 + 1; omega) _).setCell (a := ⟨w.heap.size + 1, 0, none⟩) (by show _ ≤ w.heap.size + 1; omega) _).setCell (a := ⟨w.heap.size + 1, 1, none⟩) (by show _ ≤ w.heap.size + 1; omega) _).setCell (a := ⟨w.heap.size + 1, 2, none⟩) (by show _ ≤ w.heap.size + 1; omega) _).setCell (a := ⟨w.heap.size + 1, 3, none⟩) (by show _ ≤ w.heap.size + 1; omega) _⟩
  refine Rd.Sl.narrow Nat.one_pos ?_ (fun k _ hk => Or.inl hk : ∀ k, _ → F k → F k ∨ k = w.heap.size + 1 ∨ k = w.heap.size + 1 + 1)
  exact hs1.keep (((((Keep.setCell _ _ _ (.inr (.inr rfl))).trans (Keep.setCell _ _ _ (.inr (.inl rfl)))).trans (Keep.setCell _ _ _ (.inr (.inl rfl)))).trans (Keep.setCell _ _ _ (.inr (.inl rfl)))).trans (Keep.setCell _ _ _ (.inr (.inl rfl))))
end K21
namespace K80
open Go Go.RowKit
open KB KB2 KB3 K1 K6 K7 K8 K9 K14 K17 K19 K21 P5 K25 K31 K34 K35 K42 K46 K54 K57 K75 K76 K77 K78 K79
set_option linter.unusedVariables false
set_option linter.unusedSimpArgs false
set_option maxHeartbeats 2000000
set_option maxRecDepth 100000
theorem openDC (F : Nat → Prop) (dg mg : Nat) (D : Dsk) (w : World) (h : DiskAt F w dg mg D) (A : Option Addr) (c : Nat) (s : Sch) (hA : SchAt F w A c s) (id : Nat) (hid : id < 100) (i : Nat) (hi : getA (nameS id) D.M = some i) (l : List Row) (ho : PartOk s l) (fs : Int) (hf : D.files[i]? = some (partB s l, fs)) (hF : ∀ k, F k → k < w.heap.size) :
    Calls Tryz.prog 38 #[BX dg, schV A c s, .int .i64 id] w fun e w' => ∃ g, e = .returned (.tuple #[.pointer (some ⟨g, 0, none⟩), .int .i64 0]) ∧ w.heap.size ≤ g ∧ PartAt (DF F dg mg) w' g s l ∧ Ext w w' := by
  obtain ⟨x, hx⟩ : ∃ x, w.heap.size = x := ⟨_, rfl⟩
  have hxl : w.heap.size ≤ x := Nat.le_of_eq hx
  have hs := ho.sch
  have hn2 := hs.n2
  have hDF := DFlt h hF
  have hE1 := (Ext.refl w).alloc (.cells #[.slice A s.types.length c, .int .i64 s.keys, .int .i64 s.mode, .int .i64 s.grain] 27)
  have B1 := blk_new w (.cells #[.slice A s.types.length c, .int .i64 s.keys, .int .i64 s.mode, .int .i64 s.grain] 27)
  rw [hx] at B1
  go_enter Tryz.func38, Tryz.ntmps38
  go_wp2_with (fail)
  generalize w.alloc (.cells #[.slice A s.types.length c, .int .i64 s.keys, .int .i64 s.mode, .int .i64 s.grain] 27) = w1 at *
  refine (nameC id hid w1).mono ?_; rintro e w' ⟨rfl, rfl⟩
  go_wp2_with (fail)
  refine (readC F dg mg D w' (h.ext hE1) (nameS id) (by have := nameS_size id hid; omega) i hi (partB s l) fs hf (FExt hF hE1)).mono ?_; rintro e w2 ⟨Ab, cb, rfl, hb2, hE2⟩
  have hE12 := hE1.trans hE2
  obtain ⟨b, hb⟩ : ∃ b, partB s l = b := ⟨_, rfl⟩
  rw [hb] at hb2 ⊢
  have HB := As.mk hb.symm
  clear hb hf
  go_wp2_with (fail)
  refine (openPC (DF F dg mg) Ab cb s l b HB.out w2 hb2 ho (FExt hDF hE12)).mono ?_; rintro e w3 ⟨g, rfl, hg, hp, hE3⟩
  have hE13 := hE12.trans hE3
  have hp' := hp
  obtain ⟨hgf, A4, c4, Ag, cg, Am, cm, Ar, cr, hB4, hs4, -, -, -⟩ := hp'
  replace B1 := (hE2.trans hE3).blk B1
  (have p0 := blk_cell (B1) 0; have p1 := blk_cell (B1) 1; have p2 := blk_cell (B1) 2; have p3 := blk_cell (B1) 3)
  (have q0 := blk_cell (hB4) 0; have q1 := blk_cell (hB4) 1; have q2 := blk_cell (hB4) 2; have q3 := blk_cell (hB4) 3)
  have hF3 := FExt hDF hE13
  have hF0 := FExt hF hE13
  have hA3 := Rd.Sl.ext hA hE13
  have hsc := fun W (hW : Ext w3 W) => schemaC (DF F dg mg) A4 c4 s W (Rd.Sl.ext hs4 hW) (by omega) (FExt hF3 hW)
  have hsm := fun A5 c5 W (hW : Ext w3 W) (h5 : SchAt (DF F dg mg) W A5 c5 s) => (sameC F A5 A c5 c s s hs hs W (Rd.Sl.narrow (by decide) h5 (fun k _ q => .inl q)) (Rd.Sl.ext hA3 hW) (FExt hF0 hW)).mono (fun e w' (h : e = .returned (.bool (decide (putSch s = putSch s))) ∧ Ext W w') => (⟨by rw [h.1, decide_eq_true rfl], h.2⟩ : e = .returned (.bool true) ∧ Ext W w'))
  go_wp2_with (fail)
  go_region_law (first | (go_simp; go_at_call 88; with_reducible refine Calls.mono (hsc _ ?_) ?_; exact (by (repeat (first | with_reducible refine Ext.drew ?_ | with_reducible refine Ext.drewN ?_ _ | with_reducible refine Ext.alloc ?_ _)); first | with_reducible assumption | with_reducible exact Ext.refl _); rintro e w4 ⟨A5, c5, rfl, hs5, hE5⟩; have hx5 := Ext.trans (a := w3) (by (repeat (first | with_reducible refine Ext.drew ?_ | with_reducible refine Ext.drewN ?_ _ | with_reducible refine Ext.alloc ?_ _)); first | with_reducible assumption | with_reducible exact Ext.refl _) hE5; (have z0 := blk_cell (hx5.blk B1) 0; have z1 := blk_cell (hx5.blk B1) 1; have z2 := blk_cell (hx5.blk B1) 2; have z3 := blk_cell (hx5.blk B1) 3); dsimp only) | (go_simp; go_at_call 86; refine Calls.mono (hsm A5 c5 _ ?_ ?_) ?_; exact (by (repeat (first | with_reducible refine Ext.drew ?_ | with_reducible refine Ext.drewN ?_ _ | with_reducible refine Ext.alloc ?_ _)); first | with_reducible assumption | with_reducible exact Ext.refl _); exact Rd.Sl.ext hs5 (by (repeat (first | with_reducible refine Ext.drew ?_ | with_reducible refine Ext.drewN ?_ _ | with_reducible refine Ext.alloc ?_ _)); first | with_reducible assumption | with_reducible exact Ext.refl _); rintro e w6 ⟨rfl, hE6⟩; have hx6 := Ext.trans (a := w3) (by (repeat (first | with_reducible refine Ext.drew ?_ | with_reducible refine Ext.drewN ?_ _ | with_reducible refine Ext.alloc ?_ _)); first | with_reducible assumption | with_reducible exact Ext.refl _) hE6; dsimp only))
  all_goals
    (try simp only [Exit.inBlock, Exit.then])
    go_wp2_with (fail)
    refine bodyPost_ret (v := .tuple #[.pointer (some ⟨g, 0, none⟩), .int .i64 0]) (by simp [results, Tryz.results38, go_sem]) rfl ?_
    exact ⟨g, rfl, by have := hE12.size; omega, hp.ext (by with_reducible assumption), hE13.trans (by with_reducible assumption)⟩
end K80
end Go.Proofs.YtbjeejimedhniaaGreatDoor
