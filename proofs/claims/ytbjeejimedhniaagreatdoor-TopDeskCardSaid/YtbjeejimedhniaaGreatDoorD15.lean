/- Contracts of the program's functions, as the walks of the law use them. -/
import Derived.Test.YtbjeejimedhniaaGreatDoorD14
import Derived.Test.YtbjeejimedhniaaGreatDoorD1
set_option linter.unusedVariables false
set_option linter.unusedSimpArgs false
set_option maxRecDepth 100000
set_option maxHeartbeats 2000000
namespace Go.Proofs.YtbjeejimedhniaaGreatDoor
namespace K24
open Go Go.RowKit
open KB KB2 K1 K3 K22 K23
abbrev recV (kind : Int) (A : Option Addr) (c : Nat) (s : Sch) (Ai : Option Addr) (ci : Nat) (ids : List Int) (id : Int) : Value :=
 .agg #[.int .i64 kind, .slice A s.types.length c, .int .i64 s.keys, .int .i64 s.mode, .int .i64 s.grain, .slice Ai ids.length ci, .int .i64 id]
theorem mayHead (F : Nat → Prop) (A Ai : Option Addr) (c ci : Nat) (s : Sch) (ids : List Int) (id : Int) (w : World) (hA : SchAt F w A c s) (hs : s.Ok) (hi : (rdInt .i64).Sl F w Ai ci ids) (hn : ids.length ≤ 40) (hv : ∀ n ∈ ids, 0 ≤ n ∧ n ≤ 999999) (hid : 0 ≤ id ∧ id ≤ 999999) :
   Calls Tryz.prog 172 #[recV 1 A c s Ai ci ids id] w fun e w' => e = .returned (.bool true) ∧ Ext w w' := by
 have hn1 := hs.n1
 have d0 : ((s.types.length : Int) == 0) = false := beq_eq_false_iff_ne.mpr (by omega)
 have d1 : decide ((40 : Int) < (ids.length : Int)) = false := decide_eq_false (by omega)
 have B1 := bO2 (o' := .cells #[.slice A s.types.length c, .int .i64 s.keys, .int .i64 s.mode, .int .i64 s.grain] 27) (bN w (.cells #[.int .i64 1, .slice A s.types.length c, .int .i64 s.keys, .int .i64 s.mode, .int .i64 s.grain, .slice Ai ids.length ci, .int .i64 id] 92))
 have B2 := bN (w.alloc (.cells #[.int .i64 1, .slice A s.types.length c, .int .i64 s.keys, .int .i64 s.mode, .int .i64 s.grain, .slice Ai ids.length ci, .int .i64 id] 92)) (.cells #[.slice A s.types.length c, .int .i64 s.keys, .int .i64 s.mode, .int .i64 s.grain] 27)
 have hEb := ((Ext.refl w).alloc (.cells #[.int .i64 1, .slice A s.types.length c, .int .i64 s.keys, .int .i64 s.mode, .int .i64 s.grain, .slice Ai ids.length ci, .int .i64 id] 92)).alloc (.cells #[.slice A s.types.length c, .int .i64 s.keys, .int .i64 s.mode, .int .i64 s.grain] 27)
 simp only [World.size_alloc] at B1 B2
 go_enter Tryz.func172, Tryz.ntmps172
 go_wp2_with (fail)
 generalize ((w.alloc (.cells #[.int .i64 1, .slice A s.types.length c, .int .i64 s.keys, .int .i64 s.mode, .int .i64 s.grain, .slice Ai ids.length ci, .int .i64 id] 92)).alloc (.cells #[.slice A s.types.length c, .int .i64 s.keys, .int .i64 s.mode, .int .i64 s.grain] 27)) = wb at *
 refine (oddMay id hid wb).mono ?_; rintro e w1 ⟨rfl, hE1⟩
 have a0 := bC (hE1.blk B1) 0
 have a5 := bC (hE1.blk B1) 5
 go_wp2_with (fail)
 refine (hasInt F Ai ci ids 261 #[] w1 (hi.ext (hEb.trans hE1)) (by omega) (fun _ _ => rfl) (fun W k hk hW => oddMay _ (hv _ (List.getElem_mem hk)) W)).mono ?_; rintro e w2 ⟨rfl, hE2⟩
 have hE3 := hE1.trans hE2
 have b0 := bC (hE3.blk B1) 0
 have e0 := bC (hE3.blk B2) 0
 have e1 := bC (hE3.blk B2) 1
 have e2 := bC (hE3.blk B2) 2
 have e3 := bC (hE3.blk B2) 3
 go_wp2_with (fail)
 refine (checkC F A c s w2 (Rd.Sl.ext hA (hEb.trans hE3)) hs).mono ?_; rintro e w3 ⟨rfl, hE4⟩
 go_wp2
 go_ret
 exact ⟨rfl, (hEb.trans hE3).trans hE4⟩
theorem mayAdd (F : Nat → Prop) (Ai : Option Addr) (ci : Nat) (ids : List Int) (id : Int) (w : World) (hi : (rdInt .i64).Sl F w Ai ci ids) (hn : ids.length ≤ 40) (hk : ids.length = 0) (hv : ∀ n ∈ ids, 0 ≤ n ∧ n ≤ 999999) (hid : 0 ≤ id ∧ id ≤ 999999) :
   Calls Tryz.prog 172 #[.agg #[.int .i64 2, .slice none 0 0, .int .i64 0, .int .i64 0, .int .i64 0, .slice Ai ids.length ci, .int .i64 id]] w fun e w' => e = .returned (.bool true) ∧ Ext w w' := by
 have d1 : decide ((40 : Int) < (ids.length : Int)) = false := decide_eq_false (by omega)
 have d2 : ((ids.length : Int) == 0) = true := by simp [hk]
 clear hk
 have B1 := bO2 (o' := .cells #[.slice none 0 0, .int .i64 0, .int .i64 0, .int .i64 0] 27) (bN w (.cells #[.int .i64 2, .slice none 0 0, .int .i64 0, .int .i64 0, .int .i64 0, .slice Ai ids.length ci, .int .i64 id] 92))
 have B2 := bN (w.alloc (.cells #[.int .i64 2, .slice none 0 0, .int .i64 0, .int .i64 0, .int .i64 0, .slice Ai ids.length ci, .int .i64 id] 92)) (.cells #[.slice none 0 0, .int .i64 0, .int .i64 0, .int .i64 0] 27)
 have hEb := ((Ext.refl w).alloc (.cells #[.int .i64 2, .slice none 0 0, .int .i64 0, .int .i64 0, .int .i64 0, .slice Ai ids.length ci, .int .i64 id] 92)).alloc (.cells #[.slice none 0 0, .int .i64 0, .int .i64 0, .int .i64 0] 27)
 simp only [World.size_alloc] at B1 B2
 go_enter Tryz.func172, Tryz.ntmps172
 go_wp2_with (fail)
 generalize ((w.alloc (.cells #[.int .i64 2, .slice none 0 0, .int .i64 0, .int .i64 0, .int .i64 0, .slice Ai ids.length ci, .int .i64 id] 92)).alloc (.cells #[.slice none 0 0, .int .i64 0, .int .i64 0, .int .i64 0] 27)) = wb at *
 refine (oddMay id hid wb).mono ?_; rintro e w1 ⟨rfl, hE1⟩
 have a0 := bC (hE1.blk B1) 0
 have a5 := bC (hE1.blk B1) 5
 go_wp2_with (fail)
 refine (hasInt F Ai ci ids 261 #[] w1 (hi.ext (hEb.trans hE1)) (by omega) (fun _ _ => rfl) (fun W k hk hW => oddMay _ (hv _ (List.getElem_mem hk)) W)).mono ?_; rintro e w2 ⟨rfl, hE2⟩
 have hE3 := hE1.trans hE2
 have b0 := bC (hE3.blk B1) 0
 have b5 := bC (hE3.blk B1) 5
 go_wp2
 go_ret
 exact ⟨rfl, hEb.trans hE3⟩
theorem maySwap (F : Nat → Prop) (Ai : Option Addr) (ci : Nat) (ids : List Int) (id : Int) (w : World) (hi : (rdInt .i64).Sl F w Ai ci ids) (hn : ids.length ≤ 40) (hk : 1 < ids.length) (hv : ∀ n ∈ ids, 0 ≤ n ∧ n ≤ 999999) (hid : 0 ≤ id ∧ id ≤ 999999) :
   Calls Tryz.prog 172 #[.agg #[.int .i64 3, .slice none 0 0, .int .i64 0, .int .i64 0, .int .i64 0, .slice Ai ids.length ci, .int .i64 id]] w fun e w' => e = .returned (.bool true) ∧ Ext w w' := by
 have d1 : decide ((40 : Int) < (ids.length : Int)) = false := decide_eq_false (by omega)
 have d2 : decide ((1 : Int) < (ids.length : Int)) = true := decide_eq_true (by omega)
 have B1 := bO2 (o' := .cells #[.slice none 0 0, .int .i64 0, .int .i64 0, .int .i64 0] 27) (bN w (.cells #[.int .i64 3, .slice none 0 0, .int .i64 0, .int .i64 0, .int .i64 0, .slice Ai ids.length ci, .int .i64 id] 92))
 have B2 := bN (w.alloc (.cells #[.int .i64 3, .slice none 0 0, .int .i64 0, .int .i64 0, .int .i64 0, .slice Ai ids.length ci, .int .i64 id] 92)) (.cells #[.slice none 0 0, .int .i64 0, .int .i64 0, .int .i64 0] 27)
 have hEb := ((Ext.refl w).alloc (.cells #[.int .i64 3, .slice none 0 0, .int .i64 0, .int .i64 0, .int .i64 0, .slice Ai ids.length ci, .int .i64 id] 92)).alloc (.cells #[.slice none 0 0, .int .i64 0, .int .i64 0, .int .i64 0] 27)
 simp only [World.size_alloc] at B1 B2
 go_enter Tryz.func172, Tryz.ntmps172
 go_wp2_with (fail)
 generalize ((w.alloc (.cells #[.int .i64 3, .slice none 0 0, .int .i64 0, .int .i64 0, .int .i64 0, .slice Ai ids.length ci, .int .i64 id] 92)).alloc (.cells #[.slice none 0 0, .int .i64 0, .int .i64 0, .int .i64 0] 27)) = wb at *
 refine (oddMay id hid wb).mono ?_; rintro e w1 ⟨rfl, hE1⟩
 have a0 := bC (hE1.blk B1) 0
 have a5 := bC (hE1.blk B1) 5
 go_wp2_with (fail)
 refine (hasInt F Ai ci ids 261 #[] w1 (hi.ext (hEb.trans hE1)) (by omega) (fun _ _ => rfl) (fun W k hk hW => oddMay _ (hv _ (List.getElem_mem hk)) W)).mono ?_; rintro e w2 ⟨rfl, hE2⟩
 have hE3 := hE1.trans hE2
 have b0 := bC (hE3.blk B1) 0
 have b5 := bC (hE3.blk B1) 5
 go_wp2
 go_ret
 exact ⟨rfl, hEb.trans hE3⟩
end K24
namespace K25
open Go Go.RowKit
open KB KB2 K1 K3 K6 K7 K8 K14 K22 K23 K24 Num
def bodyHead (s : Sch) (ids : List Int) (id : Nat) : List Int := ((([1] ++ pv (putSch s).length) ++ putSch s) ++ pv id) ++ (pv ids.length ++ putN ids)
def bodyAdd (id : Nat) : List Int := [2] ++ pv id
def bodySwap (ids : List Int) (id : Nat) : List Int := ([3] ++ pv id) ++ (pv ids.length ++ putN ids)
def recHead (s : Sch) (ids : List Int) (id : Nat) : List Int := frame (bodyHead s ids id)
def recAdd (id : Nat) : List Int := frame (bodyAdd id)
def recSwap (ids : List Int) (id : Nat) : List Int := frame (bodySwap ids id)
theorem wr_new (F : Nat → Prop) (w : World) (k : Int) : Wr F w ((w.alloc (.cells #[.int .u8 k] 5)).alloc (.cells #[.slice (some ⟨w.heap.size, 0, none⟩) 1 1] 247)) (w.heap.size + 1) [k] := by
 have hE := ((Ext.refl w).alloc (.cells #[.int .u8 k] 5))
 have hown : rdU8.Own F w.heap.size 5 (w.alloc (.cells #[.int .u8 k] 5)) (.slice (some ⟨w.heap.size, 0, none⟩) 1 1) [k] :=
   ⟨[.int .u8 k], World.ownsRow_lit (base := w.heap.size) (e := 5) (size := 1) w #[.int .u8 k] 1 (Nat.le_refl _) (by unfold maxLen; decide) rfl, fun j x hj => by
     match j, hj with
     | 0, hj => simp at hj; subst hj; rfl⟩
 refine ⟨hE.alloc _, by omega, _, ?_, hown.ext ((Ext.refl _).alloc _), by simp [Value.ownBlock]⟩
 have := bN (w.alloc (.cells #[.int .u8 k] 5)) (.cells #[.slice (some ⟨w.heap.size, 0, none⟩) 1 1] 247)
 rwa [World.size_alloc] at this
theorem Wr.ext' {F : Nat → Prop} {w0 w w' : World} {g : Nat} {L : List Int} (h : Wr F w0 w g L) (k : Ext w w') : Wr F w0 w' g L := by
 obtain ⟨hE, hge, v, hb, hown, hne⟩ := h
 exact ⟨hE.trans k, hge, v, k.blk hb, hown.ext k, hne⟩
theorem wr_step {F : Nat → Prop} {w0 w wa w2 : World} {g : Nat} {L L' : List Int} {v v' : Value} (h : Wr F w0 w g L) (c0 : w.cell? ⟨g, 0, none⟩ = some v) (hx : Ext w wa) (hg : wa.grownBy w2 v.ownBlock) (hat : At' wa v v') (hown2 : rdU8.Own F w0.heap.size 5 w2 v' L') : Wr F w0 (w2.setCell ⟨g, 0, none⟩ v') g L' := by
 obtain ⟨hE, hge, u, hb, hown, hne⟩ := h
 have huv : u = v := by have := bC hb 0; rw [c0] at this; simpa using this.symm
 subst huv
 have hgl := blk_lt hb
 have hb2 := (hg.block g (Nat.lt_of_lt_of_le hgl hx.size) (fun e => hne e.symm)).trans (hx.blk hb)
 have hne3 : v'.ownBlock ≠ some g := by
   rcases hat with e | e
   · rw [e]; exact hne
   · rw [e]; intro h; cases h
     exact absurd hgl (Nat.not_lt.2 hx.size)
 exact ⟨Ext.setCell (w := w0) (a := ⟨g, 0, none⟩) (Ext.grown (hE.trans hx) hg (fun k hk => (hown.ge k hk).1)) hge v', hge, _, bS hb2 0 v', Rd.Own.free (intFree .u8) (G := F) hown2 (fun k hk => Below.heap_setCell _ _ _ _ (fun e => hne3 (by rw [hk, e]))), hne3⟩
theorem putAddC (F : Nat → Prop) (id : Nat) (hid : id ≤ 999999) (w : World) (hF : ∀ k, F k → k < w.heap.size) :
   Calls Tryz.prog 89 #[.agg #[.int .i64 2, .slice none 0 0, .int .i64 0, .int .i64 0, .int .i64 0, .slice none 0 0, .int .i64 id]] w fun e w' => ∃ A c, e = .returned (.tuple #[.slice A (recAdd id).length c, .bool true]) ∧ rdU8.Sl F w' A c (recAdd id) ∧ Ext w w' := by
 have B1 := bN w (.cells #[.int .i64 2, .slice none 0 0, .int .i64 0, .int .i64 0, .int .i64 0, .slice none 0 0, .int .i64 id] 92)
 have hEb := (Ext.refl w).alloc (.cells #[.int .i64 2, .slice none 0 0, .int .i64 0, .int .i64 0, .int .i64 0, .slice none 0 0, .int .i64 id] 92)
 have hp := pv_le10 id (by omega)
 go_enter Tryz.func89, Tryz.ntmps89
 go_wp2_with (fail)
 generalize (w.alloc (.cells #[.int .i64 2, .slice none 0 0, .int .i64 0, .int .i64 0, .int .i64 0, .slice none 0 0, .int .i64 id] 92)) = wb at *
 refine (mayAdd F none 0 [] id wb (Rd.Sl.nil0 _ _ _) (by decide) rfl (by simp) (by omega)).mono ?_; rintro e w1 ⟨rfl, hE1⟩
 have hEw := hEb.trans hE1
 have a0 := bC (hE1.blk B1) 0
 have q0 := bC ((wr_new F w1 2).ext.blk (hE1.blk B1)) 0
 have q6 := bC ((wr_new F w1 2).ext.blk (hE1.blk B1)) 6
 go_wp2_with (fail)
 refine (wNumber F w1 (w1.heap.size + 1) [2] id (by omega) _ (wr_new F w1 2) (by simp) (FExt hF hEw)).mono ?_; rintro e w2 ⟨rfl, hE2, hge, v2, hb2, hown2, hne2⟩
 have hx : [2] ++ pv id = bodyAdd id := rfl
 rw [hx] at hown2
 clear hx a0 q0 q6
 have hbl : (bodyAdd id).length ≤ 100 := by simp [bodyAdd]; omega
 obtain ⟨A2, c2, rfl, hs2⟩ := hown2.shut (FExt hF hEw)
 have a0 := bC ((hE1.trans hE2).blk B1) 0
 have c0 := bC hb2 0
 go_wp2_with (fail)
 refine (frameC F A2 c2 (bodyAdd id) w2 hs2 (by omega) (FExt hF (hEw.trans hE2))).mono ?_; rintro e w3 ⟨A3, c3, rfl, hs3, hE3⟩
 go_wp2
 go_ret2
 exact ⟨A3, c3, rfl, hs3, (hEw.trans hE2).trans hE3⟩
theorem putSwapC (F : Nat → Prop) (Ai : Option Addr) (ci : Nat) (ids : List Int) (id : Nat) (hid : id ≤ 999999) (w : World) (hi : (rdInt .i64).Sl F w Ai ci ids) (hn : ids.length ≤ 40) (hk : 1 < ids.length) (hv : ∀ n ∈ ids, 0 ≤ n ∧ n ≤ 999999) (hF : ∀ k, F k → k < w.heap.size) :
   Calls Tryz.prog 89 #[.agg #[.int .i64 3, .slice none 0 0, .int .i64 0, .int .i64 0, .int .i64 0, .slice Ai ids.length ci, .int .i64 id]] w fun e w' => ∃ A c, e = .returned (.tuple #[.slice A (recSwap ids id).length c, .bool true]) ∧ rdU8.Sl F w' A c (recSwap ids id) ∧ Ext w w' := by
 have B1 := bN w (.cells #[.int .i64 3, .slice none 0 0, .int .i64 0, .int .i64 0, .int .i64 0, .slice Ai ids.length ci, .int .i64 id] 92)
 have hEb := (Ext.refl w).alloc (.cells #[.int .i64 3, .slice none 0 0, .int .i64 0, .int .i64 0, .int .i64 0, .slice Ai ids.length ci, .int .i64 id] 92)
 have hp := pv_le10 id (by omega)
 have hp2 := pv_le10 ids.length (by omega)
 have hp3 := putN_le ids (fun n h => by have := hv n h; omega)
 go_enter Tryz.func89, Tryz.ntmps89
 go_wp2_with (fail)
 generalize (w.alloc (.cells #[.int .i64 3, .slice none 0 0, .int .i64 0, .int .i64 0, .int .i64 0, .slice Ai ids.length ci, .int .i64 id] 92)) = wb at *
 refine (maySwap F Ai ci ids id wb (hi.ext hEb) hn hk hv (by omega)).mono ?_; rintro e w1 ⟨rfl, hE1⟩
 have hEw := hEb.trans hE1
 have a0 := bC (hE1.blk B1) 0
 have q0 := bC ((wr_new F w1 3).ext.blk (hE1.blk B1)) 0
 have q6 := bC ((wr_new F w1 3).ext.blk (hE1.blk B1)) 6
 go_wp2_with (fail)
 refine (wNumber F w1 (w1.heap.size + 1) [3] id (by omega) _ (wr_new F w1 3) (by simp) (FExt hF hEw)).mono ?_; rintro e w2 ⟨rfl, h2⟩
 have hE2 := h2.ext
 obtain ⟨L2, hL2⟩ : ∃ L, [3] ++ pv id = L := ⟨_, rfl⟩
 rw [hL2] at h2
 have hl2 : L2.length ≤ 20 := by rw [← hL2]; simp; omega
 have HL2 := As.mk hL2
 clear hL2 a0 q0 q6
 have a0 := bC ((hE1.trans hE2).blk B1) 0
 have a5 := bC ((hE1.trans hE2).blk B1) 5
 go_wp2_with (fail)
 refine (eachRC F w1 (w1.heap.size + 1) L2 Ai ci ids (by omega) (fun n h => by have := hv n h; omega) w2 h2 (by omega) (hi.ext hEw) (FExt hF hEw)).mono ?_; rintro e w3 ⟨rfl, hE3, hge, v3, hb3, hown3, hne3⟩
 have hx : L2 ++ (pv ids.length ++ putN ids) = bodySwap ids id := by rw [← HL2.out]; rfl
 rw [hx] at hown3
 have hbl : (bodySwap ids id).length ≤ 1000 := by rw [← hx]; simp only [List.length_append]; omega
 clear hx
 obtain ⟨A2, c2, rfl, hs2⟩ := hown3.shut (FExt hF hEw)
 have c0 := bC hb3 0
 go_wp2_with (fail)
 refine (frameC F A2 c2 (bodySwap ids id) w3 hs2 (by omega) (FExt hF (hEw.trans hE3))).mono ?_; rintro e w4 ⟨A3, c3, rfl, hs3, hE4⟩
 go_wp2
 go_ret2
 exact ⟨A3, c3, rfl, hs3, (hEw.trans hE3).trans hE4⟩
theorem putHeadC (F : Nat → Prop) (A Ai : Option Addr) (c ci : Nat) (s : Sch) (ids : List Int) (id : Nat) (hid : id ≤ 999999) (w : World) (hA : SchAt F w A c s) (hs : s.Ok) (hi : (rdInt .i64).Sl F w Ai ci ids) (hn : ids.length ≤ 40) (hv : ∀ n ∈ ids, 0 ≤ n ∧ n ≤ 999999) (hF : ∀ k, F k → k < w.heap.size) :
   Calls Tryz.prog 89 #[recV 1 A c s Ai ci ids id] w fun e w' => ∃ A c, e = .returned (.tuple #[.slice A (recHead s ids id).length c, .bool true]) ∧ rdU8.Sl F w' A c (recHead s ids id) ∧ Ext w w' := by
 have B1 := bN w (.cells #[.int .i64 1, .slice A s.types.length c, .int .i64 s.keys, .int .i64 s.mode, .int .i64 s.grain, .slice Ai ids.length ci, .int .i64 id] 92)
 have hEb := (Ext.refl w).alloc (.cells #[.int .i64 1, .slice A s.types.length c, .int .i64 s.keys, .int .i64 s.mode, .int .i64 s.grain, .slice Ai ids.length ci, .int .i64 id] 92)
 have hp := pv_le10 id (by omega)
 have hp2 := pv_le10 ids.length (by omega)
 have hp3 := putN_le ids (fun n h => by have := hv n h; omega)
 have hpl : (putSch s).length ≤ 68 := by rw [putSch, putN_length _ (nums_small hs), nums_length]; have := hs.n2; omega
 have hp4 := pv_le10 (putSch s).length (by omega)
 go_enter Tryz.func89, Tryz.ntmps89
 go_wp2_with (fail)
 generalize (w.alloc (.cells #[.int .i64 1, .slice A s.types.length c, .int .i64 s.keys, .int .i64 s.mode, .int .i64 s.grain, .slice Ai ids.length ci, .int .i64 id] 92)) = wb at *
 refine (mayHead F A Ai c ci s ids id wb (Rd.Sl.ext hA hEb) hs (hi.ext hEb) hn hv (by omega)).mono ?_; rintro e w1 ⟨rfl, hE1⟩
 have hEw := hEb.trans hE1
 have a0 := bC (hE1.blk B1) 0
 have a1 := bC (hE1.blk B1) 1
 have a2 := bC (hE1.blk B1) 2
 have a3 := bC (hE1.blk B1) 3
 have a4 := bC (hE1.blk B1) 4
 have q0 := bC ((wr_new F w1 1).ext.blk (hE1.blk B1)) 0
 have q1 := bC ((wr_new F w1 1).ext.blk (hE1.blk B1)) 1
 have q2 := bC ((wr_new F w1 1).ext.blk (hE1.blk B1)) 2
 have q3 := bC ((wr_new F w1 1).ext.blk (hE1.blk B1)) 3
 have q4 := bC ((wr_new F w1 1).ext.blk (hE1.blk B1)) 4
 go_wp2_with (fail)
 have hWn := wr_new F w1 1
 have hWb := bN (w1.alloc (.cells #[.int .u8 1] 5)) (.cells #[.slice (some ⟨w1.heap.size, 0, none⟩) 1 1] 247)
 rw [World.size_alloc] at hWb
 have hE12 := hWn.ext
 generalize ((w1.alloc (.cells #[.int .u8 1] 5)).alloc (.cells #[.slice (some ⟨w1.heap.size, 0, none⟩) 1 1] 247)) = w12 at *
 obtain ⟨g, hg⟩ : ∃ g, w1.heap.size + 1 = g := ⟨_, rfl⟩
 rw [hg] at hWn hWb
 have hgw : w.heap.size < g ∧ w1.heap.size < g := by have := hEw.size; omega
 have hcg : cur w12 g = .slice (some ⟨w1.heap.size, 0, none⟩) 1 1 := cur_eq (bC hWb 0)
 have hF12 : ∀ k, (F k ∨ k = g ∨ (cur w12 g).ownBlock = some k) → k < w12.heap.size := fun k hk => by
   rcases hk with q | q | q
   · exact FExt hF (hEw.trans hE12) k q
   · rw [q]; exact blk_lt hWb
   · rw [hcg] at q; simp [Value.ownBlock] at q; subst q; have := blk_lt hWb; omega
 have hA12 := Rd.Sl.ext (Rd.Sl.narrow (by decide) hA (G := fun k => F k ∨ k = g ∨ (cur w12 g).ownBlock = some k) (fun k hk q => by
   rcases q with q | q | q
   · exact q
   · omega
   · rw [hcg] at q; simp [Value.ownBlock] at q; subst q; have := hEw.size; omega)) (hEw.trans hE12)
 have HG := As.mk hg
 have HC := As.mk hcg
 clear hcg
 refine (putSC _ A c s w12 hA12 hs hF12).mono ?_; rintro e w2 ⟨A2, c2, rfl, hs2, hE2⟩
 have hc2 : cur w2 g = cur w12 g := by rw [HC.out]; exact cur_eq (bC (hE2.blk hWb) 0)
 rw [← hc2] at hs2
 clear hc2 hF12 hA12 a0 a1 a2 a3 a4 q0 q1 q2 q3 q4 hg
 go_wp2_with (fail)
 rw [HG.out]
 refine (wNumberS F w1 g [1] (putSch s).length (by omega) w2 (Wr.ext' hWn hE2) (by simp) (FExt hF hEw)).mono ?_; rintro e w3 ⟨rfl, h3, st3⟩
 have hs3 := st3 F rdU8 (by decide) A2 c2 (putSch s) hs2
 obtain ⟨L3, hL3⟩ : ∃ L, [1] ++ pv (putSch s).length = L := ⟨_, rfl⟩
 rw [hL3] at h3
 have hl3 : L3.length ≤ 20 := by rw [← hL3]; simp; omega
 have HL3 := As.mk hL3
 clear hL3
 have hW3 := h3
 obtain ⟨hE3, hge, v3, hb3, hown3, hne3⟩ := h3
 have hF1 := FExt hF hEw
 obtain ⟨A3, c3, rfl, _⟩ := hown3.shut hF1
 have c0 := bC hb3 0
 have f0 := bF hb3 0
 replace c0 : w3.cell? ⟨g, 0, none⟩ = some (.slice A3 L3.length c3) := c0
 rw [cur_eq c0] at hs3
 have hs3' := hs3.narrow (by decide) (G := Fv F (.slice A3 L3.length c3)) (fun k hk q => q.elim .inl (fun q => .inr (.inr q)))
 have hgl := blk_lt hb3
 go_wp2_with (at_builtin; refine wpList_appAt rfl _ _ _ rfl rdU8 elU8 rfl hown3 rfl rfl hs3' (by omega) (by unfold maxLen; omega) hE3.size ?_; intro v' w4 hown4 hg4 hat4; obtain ⟨A4, c4, rfl, _⟩ := hown4.shut hF1; have hb4 := (hg4.block g hgl (fun e => hne3 e.symm)).trans hb3; have d0 := bC hb4 0; have e0 := bF hb4 0; have hWs := wr_step hW3 c0 (Ext.refl _) hg4 hat4 hown4; rw [List.length_append] at hWs; have q0 := bC (hWs.ext.blk (hE1.blk B1)) 0; have q6 := bC (hWs.ext.blk (hE1.blk B1)) 6)
 obtain ⟨L4, hL4⟩ : ∃ L, L3 ++ putSch s = L := ⟨_, rfl⟩
 rw [hL4] at hWs
 have hl4 : L4.length ≤ 100 := by rw [← hL4, List.length_append]; omega
 have HL4 := As.mk hL4
 clear hL4 c0 f0 d0 e0 q0 q6 hg4 hat4 hown4 hb4
 refine (wNumber F w1 g L4 id (by omega) _ hWs (by omega) hF1).mono ?_; rintro e w5 ⟨rfl, h5⟩
 have hE5 := h5.ext
 obtain ⟨L5, hL5⟩ : ∃ L, L4 ++ pv id = L := ⟨_, rfl⟩
 rw [hL5] at h5
 have hl5 : L5.length ≤ 120 := by rw [← hL5, List.length_append]; omega
 have HL5 := As.mk hL5
 clear hL5
 have a0 := bC ((hE1.trans hE5).blk B1) 0
 have a5 := bC ((hE1.trans hE5).blk B1) 5
 go_wp2_with (fail)
 refine (eachRC F w1 g L5 Ai ci ids (by omega) (fun n h => by have := hv n h; omega) w5 h5 (by omega) (hi.ext hEw) hF1).mono ?_; rintro e w6 ⟨rfl, hE6, hge6, v6, hb6, hown6, hne6⟩
 have hx : L5 ++ (pv ids.length ++ putN ids) = bodyHead s ids id := by rw [← HL5.out, ← HL4.out, ← HL3.out]; rfl
 rw [hx] at hown6
 have hbl : (bodyHead s ids id).length ≤ 1000 := by rw [← hx]; simp only [List.length_append]; omega
 clear hx a0 a5
 obtain ⟨A6, c6, rfl, hs6⟩ := hown6.shut hF1
 have c0 := bC hb6 0
 go_wp2_with (fail)
 refine (frameC F A6 c6 (bodyHead s ids id) w6 hs6 (by omega) (FExt hF (hEw.trans hE6))).mono ?_; rintro e w7 ⟨A7, c7, rfl, hs7, hE7⟩
 go_wp2
 go_ret2
 exact ⟨A7, c7, rfl, hs7, (hEw.trans hE6).trans hE7⟩
end K25
namespace K26
open Go Go.RowKit
open KB KB2 K1 K3 K6 K7 K8 K14 K22 K23 K24 K25 Num
structure Rr (F : Nat → Prop) (w0 w : World) (g : Nat) (l : List Int) : Prop where
 ext : Ext w0 w
 ge : w0.heap.size ≤ g
 at_ : ∃ A c, w.heap[g]? = some (.cells #[.slice A l.length c, .bool false] 390 (0, 0)) ∧ rdU8.Sl F w0 A c l
theorem Rr.ext' {F : Nat → Prop} {w0 w w' : World} {g : Nat} {l : List Int} (h : Rr F w0 w g l) (k : Ext w w') : Rr F w0 w' g l := by
 obtain ⟨hE, hge, A, c, hb, hs⟩ := h
 exact ⟨hE.trans k, hge, A, c, k.blk hb, hs⟩
theorem Rr.keep' {F G : Nat → Prop} {w0 w w' : World} {g : Nat} {l : List Int} (h : Rr F w0 w g l) (k : Keep G w w') (h0 : ∀ i, G i → w0.heap.size ≤ i) (hg : ¬ G g) : Rr F w0 w' g l := by
 obtain ⟨hE, hge, A, c, hb, hs⟩ := h
 exact ⟨hE.keepNew k h0, hge, A, c, k.blk hg hb, hs⟩
theorem rNumber (F : Nat → Prop) (w0 : World) (g x : Nat) (rest l : List Int) (hl : l = pv x ++ rest) (hx : x ≤ 999999) (hll : l.length ≤ 1000000) (w : World) (h : Rr F w0 w g l) :
   Calls Tryz.prog 354 #[.pointer (some ⟨g, 0, none⟩)] w fun e w' => e = .returned (.int .i64 x) ∧ Rr F w0 w' g rest ∧ Keep (fun k => k = g) w w' := by
 obtain ⟨hE, hge, A, c, hb, hs⟩ := h
 have hlen : l.length = (pv x).length + rest.length := by rw [hl, List.length_append]
 have hp1 := pv_pos x
 obtain ⟨A2, hsl, hS⟩ := hs.suf elU8 (pv x).length rest.length ((pv x).length : Int) (by omega) rfl (by omega)
 have hdr : l.drop (pv x).length = rest := by rw [hl]; exact List.drop_left' rfl
 rw [hdr] at hS
 have hvc := fun W hW => varC F A c x rest l hl W (by omega) hW (by omega)
 have HLN : As (l.length = (pv x).length + rest.length) := ⟨hlen⟩
 have hpl : (pv x).length ≤ l.length := by omega
 have i0 : (0 : Int) ≤ ((pv x).length : Int) := by omega
 have i1 : ((pv x).length : Int) ≤ (l.length : Int) := by omega
 have i2 : (l.length : Int) ≤ 1000000 := by omega
 generalize (pv x).length = p at *
 have d0 : ((p : Int) == 0) = false := beq_eq_false_iff_ne.mpr (by omega)
 have d1 : decide ((999999 : Int) < (x : Int)) = false := decide_eq_false (by omega)
 have hwx : IntKind.i64.wrap (x : Int) = x := by rw [IntKind.wrap_i64]; omega
 have c0 := bC hb 0
 have f0 := bF hb 0
 clear hlen hdr hl
 go_enter Tryz.func354, Tryz.ntmps354
 go_wp2_with (fail)
 refine (hvc w (hs.ext hE)).mono ?_; rintro e w1 ⟨rfl, hE1⟩
 have hb1 := hE1.blk hb
 have e0 := bC hb1 0
 have g0 := bF hb1 0
 go_wp2
 go_ret
 exact ⟨rfl, ⟨Ext.setCell (a := ⟨g, 0, none⟩) (hE.trans hE1) hge _, hge, A2, _, bS hb1 0 _, hS⟩, (hE1.keep _).trans (Keep.setCell _ _ _ rfl)⟩
theorem rSchema (F F2 : Nat → Prop) (w0 : World) (g : Nat) (s : Sch) (hs : s.Ok) (rest l : List Int) (hl : l = pv (putSch s).length ++ (putSch s ++ rest)) (hll : l.length ≤ 1000000) (w : World) (h : Rr F w0 w g l) (hF2 : ∀ k, F2 k → (F k ∨ w0.heap.size ≤ k) ∧ k < w.heap.size) :
   Calls Tryz.prog 353 #[.pointer (some ⟨g, 0, none⟩)] w fun e w' => ∃ A c, e = .returned (schV A c s) ∧ (rdInt .i64).Sl (fun k => F2 k ∨ k = g) w' A c s.types ∧ Rr F w0 w' g rest ∧ Keep (fun k => k = g) w w' := by
 have hpl : (putSch s).length ≤ 68 := by rw [putSch, putN_length _ (nums_small hs), nums_length]; have := hs.n2; omega
 have hsz : g < w.heap.size := by obtain ⟨A, c, hb, _⟩ := h.at_; exact blk_lt hb
 have hbx := bN w (.cells #[.slice none 0 0, .int .i64 0, .int .i64 0, .int .i64 0] 27)
 have hEx := (Ext.refl w).alloc (.cells #[.slice none 0 0, .int .i64 0, .int .i64 0, .int .i64 0] 27)
 go_enter Tryz.func353, Tryz.ntmps353
 go_wp2_with (fail)
 generalize (w.alloc (.cells #[.slice none 0 0, .int .i64 0, .int .i64 0, .int .i64 0] 27)) = wa at *
 obtain ⟨x, hx⟩ : ∃ x, w.heap.size = x := ⟨_, rfl⟩
 rw [hx] at hbx hsz ⊢
 refine (rNumber F w0 g (putSch s).length (putSch s ++ rest) l hl (by omega) hll wa (h.ext' hEx)).mono ?_; rintro e w1 ⟨rfl, h1, k1⟩
 obtain ⟨hE1, hge, A1, c1, hb1, hs1⟩ := h1
 have hle1 := hs1.le
 have hmx1 := hs1.max
 have hbx1 := k1.blk (by omega : ¬ x = g) hbx
 obtain ⟨N, hN⟩ : ∃ N, (putSch s).length = N := ⟨_, rfl⟩
 obtain ⟨M, hM⟩ : ∃ M, (putSch s ++ rest).length = M := ⟨_, rfl⟩
 have hMN : M = N + rest.length := by rw [← hM, ← hN, List.length_append]
 obtain ⟨A2, hsl2, hS2⟩ := hs1.suf elU8 N rest.length (N : Int) (by omega) rfl (by omega)
 have hdr : (putSch s ++ rest).drop N = rest := List.drop_left' hN
 have htk : (putSch s ++ rest).take N = putSch s := List.take_left' hN
 have hpre := hs1.pre N
 rw [hdr] at hS2
 rw [htk] at hpre
 rw [hM] at hsl2 hb1
 rw [hN]
 have hxs := Nat.le_trans (Ext.size hE1) (Nat.le_refl _)
 have hpre1 := Rd.Sl.ext (Rd.Sl.narrow (by decide) hpre (G := fun k => F2 k ∨ k = g ∨ k = x) (fun k hk q => by
   have := h.ext.size
   rcases q with q | q | q
   · exact (hF2 k q).1.elim id (fun q => by omega)
   · omega
   · omega)) hE1
 have htS := takeSC (fun k => F2 k ∨ k = g ∨ k = x) A1 c1 s w1 (putSch s) rfl hpre1 hs (fun k q => by
   rcases q with q | q | q
   · exact Nat.lt_of_lt_of_le (hF2 k q).2 (Nat.le_trans hEx.size k1.size)
   · rw [q]; exact blk_lt hb1
   · rw [q]; exact blk_lt hbx1)
 rw [hN] at htS
 have c0 := bC hb1 0
 have c1' := bC hb1 1
 have j0 : (0 : Int) ≤ (N : Int) := by omega
 have j1 : (N : Int) ≤ (c1 : Int) := by omega
 have j2 : (N : Int) ≤ (M : Int) := by omega
 have d1 : decide ((M : Int) < (N : Int)) = false := decide_eq_false (by omega)
 have HMN := As.mk hMN
 clear hN hM hMN hdr htk hl
 go_wp2_with (fail)
 refine htS.mono ?_; rintro e w2 ⟨A3, c3, rfl, hsA, hE2⟩
 have hb2 := hE2.blk hb1
 have hbx2 := hE2.blk hbx1
 have hy := bN w2 (.cells #[.slice A3 s.types.length c3, .int .i64 s.keys, .int .i64 s.mode, .int .i64 s.grain] 27)
 have hE3 := (Ext.refl w2).alloc (.cells #[.slice A3 s.types.length c3, .int .i64 s.keys, .int .i64 s.mode, .int .i64 s.grain] 27)
 have hb3 := hE3.blk hb2
 have hbx3 := hE3.blk hbx2
 have hgy : ¬ w2.heap.size = g := by have := blk_lt hb2; omega
 have hxy : ¬ w2.heap.size = x := by have := blk_lt hbx2; omega
 have hgx : ¬ x = g := by omega
 have hgx' : ¬ g = x := by omega
 (have a0 := bC (hb3) 0; have af0 := bF (hb3) 0; have a1 := bC (hb3) 1; have af1 := bF (hb3) 1)
 (have y0 := bC (hy) 0; have y1 := bC (hy) 1; have y2 := bC (hy) 2; have y3 := bC (hy) 3)
 (have q0 := bC (hbx3) 0; have qf0 := bF (hbx3) 0; have q1 := bC (hbx3) 1; have qf1 := bF (hbx3) 1; have q2 := bC (hbx3) 2; have qf2 := bF (hbx3) 2; have q3 := bC (hbx3) 3; have qf3 := bF (hbx3) 3)
 clear c0 c1'
 go_wp2_with (fail)
 have K2 := (kS1 (w2.alloc (.cells #[.slice A3 s.types.length c3, .int .i64 s.keys, .int .i64 s.mode, .int .i64 s.grain] 27)) g 0 (.slice A2 rest.length (c1 - N))).trans (kS1 _ g 1 (.bool false))
 have hbg := bS (bS hb3 0 (.slice A2 rest.length (c1 - N))) 1 (.bool false)
 have P := put4 (K2.blk hgx hbx3) (.slice A3 s.types.length c3) (.int .i64 s.keys) (.int .i64 s.mode) (.int .i64 s.grain)
 have KW := K2.or P.2
 have hbg' := P.2.blk hgx' hbg
 (have e0 := bC (P.1) 0; have e1 := bC (P.1) 1; have e2 := bC (P.1) 2; have e3 := bC (P.1) 3)
 (try simp only [Exit.inBlock, Exit.then])
 refine bodyPost_ret (v := schV A3 c3 s) (by simp [results, Tryz.results353, go_sem, e0, e1, e2, e3, schV]) rfl ?_
 clear e0 e1 e2 e3 a0 af0 a1 af1 y0 y1 y2 y3
 have hsW := (Rd.Sl.ext hsA hE3).keep (KW.mono (fun k _ q => .inr q))
 have hw0 := h.ext.size
 refine ⟨A3, c3, rfl, hsW.narrow (by decide) (fun k _ q => q.elim .inl (fun q => .inr (.inl q))), ⟨((hE1.trans hE2).trans hE3).keepNew KW (fun i q => by rcases q with q | q <;> omega), hge, A2, _, hbg', hS2⟩, ?_⟩
 have K1 := ((k1.trans (hE2.keep _)).trans (hE3.keep _)).or KW
 exact ((hEx.keep _).trans K1).mono (fun k hk q => by rcases q with q | q | q <;> omega)
end K26
namespace K27
open Go Go.RowKit
open KB KB2 KB3 K1 K3 K6 K7 K8 K14 K22 K23 K24 K25 K26 Num
theorem recAddC (F : Nat → Prop) (w0 : World) (g id : Nat) (hid : id ≤ 999999) (l : List Int) (hl : l = pv id ++ []) (hll : l.length ≤ 1000000) (w : World) (h : Rr F w0 w g l) :
   Calls Tryz.prog 322 #[.pointer (some ⟨g, 0, none⟩), .int .i64 2] w fun e w' => e = .returned (.agg #[.int .i64 2, .slice none 0 0, .int .i64 0, .int .i64 0, .int .i64 0, .slice none 0 0, .int .i64 id]) ∧ Rr F w0 w' g [] ∧ Keep (fun k => k = g) w w' := by
 have hsz : g < w.heap.size := by obtain ⟨A, c, hb, _⟩ := h.at_; exact blk_lt hb
 have hx1 := bN w (.cells #[.int .i64 0, .slice none 0 0, .int .i64 0, .int .i64 0, .int .i64 0, .slice none 0 0, .int .i64 0] 92)
 have hE1 := (Ext.refl w).alloc (.cells #[.int .i64 0, .slice none 0 0, .int .i64 0, .int .i64 0, .int .i64 0, .slice none 0 0, .int .i64 0] 92)
 have hx2 := bO2 (o' := .cells #[.int .i64 2, .slice none 0 0, .int .i64 0, .int .i64 0, .int .i64 0, .slice none 0 0, .int .i64 0] 92) hx1
 have hy2 := bN (w.alloc (.cells #[.int .i64 0, .slice none 0 0, .int .i64 0, .int .i64 0, .int .i64 0, .slice none 0 0, .int .i64 0] 92)) (.cells #[.int .i64 2, .slice none 0 0, .int .i64 0, .int .i64 0, .int .i64 0, .slice none 0 0, .int .i64 0] 92)
 have hE2 := hE1.alloc (.cells #[.int .i64 2, .slice none 0 0, .int .i64 0, .int .i64 0, .int .i64 0, .slice none 0 0, .int .i64 0] 92)
 rw [World.size_alloc] at hy2
 obtain ⟨A0, c0, hb0, _⟩ := h.at_
 have hb2 := hE2.blk hb0
 (have b0 := bC (hb2) 0; have b1 := bC (hb2) 1)
 go_enter Tryz.func322, Tryz.ntmps322
 go_wp2_with (fail)
 generalize ((w.alloc (.cells #[.int .i64 0, .slice none 0 0, .int .i64 0, .int .i64 0, .int .i64 0, .slice none 0 0, .int .i64 0] 92)).alloc (.cells #[.int .i64 2, .slice none 0 0, .int .i64 0, .int .i64 0, .int .i64 0, .slice none 0 0, .int .i64 0] 92)) = w2 at *
 obtain ⟨x, hx⟩ : ∃ x, w.heap.size = x := ⟨_, rfl⟩
 rw [hx] at hx2 hy2 hsz ⊢
 refine (rNumber F w0 g id [] l hl hid hll w2 (h.ext' hE2)).mono ?_; rintro e w3 ⟨rfl, h3, k3⟩
 have hx3 := k3.blk (by omega : ¬ x = g) hx2
 have hy3 := k3.blk (by omega : ¬ x + 1 = g) hy2
 clear b0 b1
 (have p0 := bC (hx3) 0; have pf0 := bF (hx3) 0; have p1 := bC (hx3) 1; have pf1 := bF (hx3) 1; have p2 := bC (hx3) 2; have pf2 := bF (hx3) 2; have p3 := bC (hx3) 3; have pf3 := bF (hx3) 3; have p4 := bC (hx3) 4; have pf4 := bF (hx3) 4; have p5 := bC (hx3) 5; have pf5 := bF (hx3) 5; have p6 := bC (hx3) 6; have pf6 := bF (hx3) 6)
 (have q0 := bC (hy3) 0; have qf0 := bF (hy3) 0; have q1 := bC (hy3) 1; have qf1 := bF (hy3) 1; have q2 := bC (hy3) 2; have qf2 := bF (hy3) 2; have q3 := bC (hy3) 3; have qf3 := bF (hy3) 3; have q4 := bC (hy3) 4; have qf4 := bF (hy3) 4; have q5 := bC (hy3) 5; have qf5 := bF (hy3) 5; have q6 := bC (hy3) 6; have qf6 := bF (hy3) 6)
 have n1 : ¬ x + 1 = x := by omega
 have n2 : ¬ x = x + 1 := by omega
 go_wp2_with (fail)
 have K1 := kS1 w3 (x + 1) 6 (.int .i64 id)
 have P := put7 (K1.blk n2 hx3) (.int .i64 2) (.slice none 0 0) (.int .i64 0) (.int .i64 0) (.int .i64 0) (.slice none 0 0) (.int .i64 id)
 have KW := K1.or P.2
 (have e0 := bC (P.1) 0; have e1 := bC (P.1) 1; have e2 := bC (P.1) 2; have e3 := bC (P.1) 3; have e4 := bC (P.1) 4; have e5 := bC (P.1) 5; have e6 := bC (P.1) 6)
 (try simp only [Exit.inBlock, Exit.then])
 refine bodyPost_ret (v := .agg #[.int .i64 2, .slice none 0 0, .int .i64 0, .int .i64 0, .int .i64 0, .slice none 0 0, .int .i64 id]) (by simp [results, Tryz.results322, go_sem, e0, e1, e2, e3, e4, e5, e6]) rfl ?_
 obtain ⟨hE3, hge3, A3, c3, hb3, hs3⟩ := h3
 have hw0 := h.ext.size
 refine ⟨rfl, ⟨hE3.keepNew KW (fun i q => by rcases q with q | q <;> omega), hge3, A3, c3, KW.blk (by omega : ¬ (g = x + 1 ∨ g = x)) hb3, hs3⟩, ?_⟩
 exact (((hE2.keep _).trans k3).or KW).mono (fun k hk q => by rcases q with q | q | q <;> omega)
theorem recHeadC (F F2 : Nat → Prop) (w0 : World) (g id : Nat) (s : Sch) (hs : s.Ok) (ids : List Int) (hn : ids.length ≤ 40) (hv : ∀ n ∈ ids, 0 ≤ n ∧ n ≤ 999999) (hid : id ≤ 999999) (l : List Int) (hl : l = pv (putSch s).length ++ (putSch s ++ (pv id ++ (pv ids.length ++ putN ids)))) (hll : l.length ≤ 1000000) (w : World) (h : Rr F w0 w g l)
   (hF2 : ∀ k, F2 k → (F k ∨ w0.heap.size ≤ k) ∧ k < w.heap.size) :
   Calls Tryz.prog 322 #[.pointer (some ⟨g, 0, none⟩), .int .i64 1] w fun e w' => ∃ A c Ai ci, e = .returned (recV 1 A c s Ai ci ids id) ∧ (rdInt .i64).Sl (fun k => F2 k ∨ k = g) w' A c s.types ∧ (rdInt .i64).Sl (fun k => F2 k ∨ k = g) w' Ai ci ids ∧ Rr F w0 w' g [] ∧ Keep (fun k => k = g) w w' := by
 have hsz : g < w.heap.size := by obtain ⟨A, c, hb, _⟩ := h.at_; exact blk_lt hb
 have hw0 := h.ext.size
 have hgw0 := h.ge
 have hx1 := bN w (.cells #[.int .i64 0, .slice none 0 0, .int .i64 0, .int .i64 0, .int .i64 0, .slice none 0 0, .int .i64 0] 92)
 have hE1 := (Ext.refl w).alloc (.cells #[.int .i64 0, .slice none 0 0, .int .i64 0, .int .i64 0, .int .i64 0, .slice none 0 0, .int .i64 0] 92)
 have hx2 := bO2 (o' := .cells #[.int .i64 1, .slice none 0 0, .int .i64 0, .int .i64 0, .int .i64 0, .slice none 0 0, .int .i64 0] 92) hx1
 have hy2 := bN (w.alloc (.cells #[.int .i64 0, .slice none 0 0, .int .i64 0, .int .i64 0, .int .i64 0, .slice none 0 0, .int .i64 0] 92)) (.cells #[.int .i64 1, .slice none 0 0, .int .i64 0, .int .i64 0, .int .i64 0, .slice none 0 0, .int .i64 0] 92)
 have hE2 := hE1.alloc (.cells #[.int .i64 1, .slice none 0 0, .int .i64 0, .int .i64 0, .int .i64 0, .slice none 0 0, .int .i64 0] 92)
 rw [World.size_alloc] at hy2
 go_enter Tryz.func322, Tryz.ntmps322
 go_wp2_with (fail)
 generalize ((w.alloc (.cells #[.int .i64 0, .slice none 0 0, .int .i64 0, .int .i64 0, .int .i64 0, .slice none 0 0, .int .i64 0] 92)).alloc (.cells #[.int .i64 1, .slice none 0 0, .int .i64 0, .int .i64 0, .int .i64 0, .slice none 0 0, .int .i64 0] 92)) = w2 at *
 obtain ⟨x, hx⟩ : ∃ x, w.heap.size = x := ⟨_, rfl⟩
 rw [hx] at hx2 hy2 hsz hw0 ⊢
 have hy2l := blk_lt hy2
 refine (rSchema F (fun k => F2 k ∨ k = x ∨ k = x + 1) w0 g s hs (pv id ++ (pv ids.length ++ putN ids)) l hl hll w2 (h.ext' hE2) (fun k q => by
   rcases q with q | q | q
   · have := hF2 k q; exact ⟨this.1, by omega⟩
   · exact ⟨.inr (by omega), by omega⟩
   · exact ⟨.inr (by omega), by omega⟩)).mono ?_; rintro e w3 ⟨A3, c3, rfl, hs3, h3, k3⟩
 have hx3 := k3.blk (by omega : ¬ x = g) hx2
 have hy3 := k3.blk (by omega : ¬ x + 1 = g) hy2
 obtain ⟨A0, c0, hb0, _⟩ := h3.at_
 have hgs := blk_lt hb0
 have n1 : ¬ x + 1 = x := by omega
 have n2 : ¬ x = x + 1 := by omega
 have n3 : ¬ g = x + 1 := by omega
 have n4 : ¬ x + 1 = g := by omega
 (have q0 := bC (hy3) 0; have qf0 := bF (hy3) 0; have q1 := bC (hy3) 1; have qf1 := bF (hy3) 1; have q2 := bC (hy3) 2; have qf2 := bF (hy3) 2; have q3 := bC (hy3) 3; have qf3 := bF (hy3) 3; have q4 := bC (hy3) 4; have qf4 := bF (hy3) 4; have q5 := bC (hy3) 5; have qf5 := bF (hy3) 5; have q6 := bC (hy3) 6; have qf6 := bF (hy3) 6)
 (have b0 := bC (hb0) 0; have bf0 := bF (hb0) 0; have b1 := bC (hb0) 1; have bf1 := bF (hb0) 1)
 go_wp2_with (fail)
 have y1 := bS hy3 1 (.slice A3 s.types.length c3)
 have y2 := bS y1 2 (.int .i64 s.keys)
 have y3 := bS y2 3 (.int .i64 s.mode)
 have y4 := bS y3 4 (.int .i64 s.grain)
 have K4 := (((kS1 w3 (x + 1) 1 (.slice A3 s.types.length c3)).trans (kS1 _ (x + 1) 2 (.int .i64 s.keys))).trans (kS1 _ (x + 1) 3 (.int .i64 s.mode))).trans (kS1 _ (x + 1) 4 (.int .i64 s.grain))
 generalize ((((w3.setCell ⟨x + 1, 1, none⟩ (.slice A3 s.types.length c3)).setCell ⟨x + 1, 2, none⟩ (.int .i64 s.keys)).setCell ⟨x + 1, 3, none⟩ (.int .i64 s.mode)).setCell ⟨x + 1, 4, none⟩ (.int .i64 s.grain)) = w4 at *
 have y4' : w4.heap[x + 1]? = some (.cells #[.int .i64 1, .slice A3 s.types.length c3, .int .i64 s.keys, .int .i64 s.mode, .int .i64 s.grain, .slice none 0 0, .int .i64 0] 92 (0, 0)) := y4
 clear y1 y2 y3 y4
 clear q0 qf0 q1 qf1 q2 qf2 q3 qf3 q4 qf4 q5 qf5 q6 qf6
 have h4 := h3.keep' K4 (fun i q => by omega) n3
 have hs4 := hs3.keep (K4.mono (fun k _ q => .inl (.inr (.inr q))))
 obtain ⟨A5, c5, hb5, _⟩ := h4.at_
 (have b0 := bC (hb5) 0; have b1 := bC (hb5) 1)
 go_wp2_with (fail)
 refine (rNumber F w0 g id (pv ids.length ++ putN ids) _ rfl hid (by rw [hl] at hll; simp only [List.length_append] at hll ⊢; omega) w4 h4).mono ?_; rintro e w5 ⟨rfl, h5, k5⟩
 have y5 := k5.blk n4 y4'
 have hs5 := hs4.keep (k5.mono (fun k _ q => .inr q))
 obtain ⟨A6, c6, hb6, _⟩ := h5.at_
 clear b0 b1
 (have b0 := bC (hb6) 0; have b1 := bC (hb6) 1)
 (have q0 := bC (y5) 0; have qf0 := bF (y5) 0; have q1 := bC (y5) 1; have qf1 := bF (y5) 1; have q2 := bC (y5) 2; have qf2 := bF (y5) 2; have q3 := bC (y5) 3; have qf3 := bF (y5) 3; have q4 := bC (y5) 4; have qf4 := bF (y5) 4; have q5 := bC (y5) 5; have qf5 := bF (y5) 5; have q6 := bC (y5) 6; have qf6 := bF (y5) 6)
 go_wp2_with (fail)
 have y6 := bS y5 6 (.int .i64 id)
 have K6 := kS1 w5 (x + 1) 6 (.int .i64 id)
 generalize (w5.setCell ⟨x + 1, 6, none⟩ (.int .i64 id)) = w6 at *
 have y6' : w6.heap[x + 1]? = some (.cells #[.int .i64 1, .slice A3 s.types.length c3, .int .i64 s.keys, .int .i64 s.mode, .int .i64 s.grain, .slice none 0 0, .int .i64 id] 92 (0, 0)) := y6
 clear y6 b0 b1
 clear q0 qf0 q1 qf1 q2 qf2 q3 qf3 q4 qf4 q5 qf5 q6 qf6
 have h6 := h5.keep' K6 (fun i q => by omega) n3
 have hs6 := hs5.keep (K6.mono (fun k _ q => .inl (.inr (.inr q))))
 obtain ⟨A7, c7, hb7, _⟩ := h6.at_
 (have b0 := bC (hb7) 0; have b1 := bC (hb7) 1)
 go_wp2_with (fail)
 refine (rNumber F w0 g ids.length (putN ids) _ rfl (by omega) (by rw [hl] at hll; simp only [List.length_append] at hll ⊢; omega) w6 h6).mono ?_; rintro e w7 ⟨rfl, h7, k7⟩
 have y7 := k7.blk n4 y6'
 have hs7 := hs6.keep (k7.mono (fun k _ q => .inr q))
 have hx7 := k7.blk (by omega : ¬ x = g) (K6.blk n2 (k5.blk (by omega : ¬ x = g) (K4.blk n2 hx3)))
 clear b0 b1
 have hmn : min (ids.length : Int) 40 = (ids.length : Int) := by omega
 go_wp2_with (fail)
 have hll2 : (putN ids).length ≤ 1000000 := by rw [hl] at hll; simp only [List.length_append] at hll; omega
 clear hmn hl hll hs3 hs4 hs5 hs6 h3 h4 h5 h6 hb0 hb5 hb6 hb7 y4' y5 y6' hx3 hy3
 go_loopw [33] (fun i wr => ∃ (k : Nat) (v : Value), i = .int .i64 k ∧ k ≤ ids.length ∧ Rr F w0 wr g (putN (ids.drop k)) ∧ wr.heap[x + 1]? = some (.cells #[.int .i64 1, .slice A3 s.types.length c3, .int .i64 s.keys, .int .i64 s.mode, .int .i64 s.grain, v, .int .i64 id] 92 (0, 0)) ∧ (rdInt .i64).Own (fun _ => False) w7.heap.size 3 wr v (ids.take k) ∧ Keep (fun i => i = g ∨ i = x + 1) w7 wr) (fun i _ => ids.length - (intOf i).toNat)
 case atStart => exact ⟨0, _, by go_num, Nat.zero_le _, h7, y7, Rd.Own.nil _ _ _ _ _, Keep.refl _ _⟩
 case round =>
   obtain ⟨k, v, rfl, hkl, hR, hy, hown, hK⟩ := hrel
   by_cases hlt : k < ids.length
   · have hvk := hv _ (List.getElem_mem hlt)
     obtain ⟨n, hn1⟩ : ∃ n : Nat, ids[k] = n := ⟨ids[k].toNat, by omega⟩
     have hT : putN (ids.drop k) = pv n ++ putN (ids.drop (k + 1)) := by rw [List.drop_eq_getElem_cons hlt, putN_cons, hn1]; rfl
     have hsp : putN ids = putN (ids.take k) ++ putN (ids.drop k) := by rw [putN, putN, putN, ← List.flatten_append, ← List.map_append, List.take_append_drop]
     have HL : As ((putN (ids.drop k)).length ≤ 1000000) := ⟨by rw [hsp, List.length_append] at hll2; omega⟩
     have HT := As.mk hT
     have HTK := As.mk (take_snoc ids hlt)
     have HN := As.mk hn1
     have hn9 : n ≤ 999999 := by omega
     have htl : (ids.take k).length ≤ 40 := by rw [List.length_take]; omega
     obtain ⟨T, hTT⟩ : ∃ T, ids.take k = T := ⟨_, rfl⟩
     rw [hTT] at htl hown
     have HTT := As.mk hTT
     clear hTT
     obtain ⟨Av, cv, rfl, _⟩ := hown.shut (F := fun _ => False) (fun _ h => h.elim)
     have c5 := bC hy 5
     have f5 := bF hy 5
     replace c5 : wr.cell? ⟨x + 1, 5, none⟩ = some (.slice Av T.length cv) := c5
     have hxl := blk_lt hy
     have hx7l := blk_lt y7
     have hgl7 : g < w7.heap.size := by obtain ⟨_, _, q, _⟩ := h7.at_; exact blk_lt q
     clear hT hn1 hvk hsp
     go_wp2_with (fail)
     go_region_law (first | (go_simp; go_at_call 354; refine (rNumber F w0 g n (putN (ids.drop (k + 1))) _ HT.out hn9 HL.out _ (hR.ext' XE)).mono ?_; rintro e w8 ⟨rfl, h8, k8⟩; have k8' : Keep (fun i => i = g) wr w8 := Keep.pre k8 XE; have y8 := k8'.blk n4 hy; have d5 : w8.cell? ⟨x + 1, 5, none⟩ = some (.slice Av T.length cv) := bC y8 5; have df5 := bF y8 5; have e5 : (w8.alloc (.cells #[.int .i64 n] 3)).cell? ⟨x + 1, 5, none⟩ = some (.slice Av T.length cv) := bC (bO2 y8) 5; have hown8 := hown.free (intFree .i64) (G := fun _ => False) (w' := w8) (fun i hi => k8'.block i (hown.ge i hi).2 (by have := (hown.ge i hi).1; omega)); dsimp only) | (refine step_pushAt rfl (.tmp 36) (.tmp 39) 25 rfl (rdInt .i64) elInt (v := .slice Av T.length cv) (by first | rfl | exact cell_get c5 | exact cell_get d5 | exact cell_get e5) (hown8.ext XE) (by rfl) (by exact heap_alloc_new w8 _) (y := (n : Int)) rfl (by omega) (by unfold maxLen; omega) (by have := hK.size; have := k8'.size; simp; omega) ?_; intro v' w9 hown9 hg9 hat9; obtain ⟨A9, c9, rfl, _⟩ := hown9.shut (F := fun _ => False) (fun _ h => h.elim); have y9 := (hg9.block (x + 1) (by have := k8'.size; simp; omega) (fun e => by have := (hown8.ge _ e.symm).1; omega)).trans (Ext.blk (w := w8) XE y8); have d9 := bC y9 5; have df9 := bF y9 5))
     all_goals
       (try simp only [Exit.inBlock, Exit.then])
       have hw7s : w0.heap.size ≤ w7.heap.size := Nat.le_trans hgw0 (Nat.le_of_lt hgl7)
       have KA := (Keep.of_grown (F := fun i => w7.heap.size ≤ i) hg9 (fun i hi _ => (hown8.ge i hi).1)).or (kS1 w9 (x + 1) 5 (.slice A9 (T ++ [(n : Int)]).length c9))
       have KB' := Keep.pre (a := w8) KA XE
       have hRw := h8.keep' KB' (fun i q => by rcases q with q | q <;> omega) (by omega)
       have hyw := bS y9 5 (.slice A9 (T ++ [(n : Int)]).length c9)
       have how := own_set (intFree .i64) (j := 5) (u := .slice A9 (T ++ [(n : Int)]).length c9) hown9 hx7l
       have HTK' : ids.take (k + 1) = T ++ [(n : Int)] := by rw [HTK.out, HN.out, HTT.out]
       rw [List.length_append] at hRw hyw how KB'
       rw [← HTK'] at how
       go_wp2
       go_roundw
       case rel => exact ⟨k + 1, _, by go_num, by omega, hRw, hyw, how, ((hK.or k8').or KB').mono (fun i hi q => by rcases q with (q | q) | q | q <;> omega)⟩
       case measure => simp [intOf]; omega
   · obtain rfl : k = ids.length := by omega
     rw [List.take_length] at hown
     rw [List.drop_length] at hR
     obtain ⟨Av, cv, rfl, _⟩ := hown.shut (F := fun _ => False) (fun _ h => h.elim)
     have hxr := hK.blk (by omega : ¬ (x = g ∨ x = x + 1)) hx7
     (have q0 := bC (hy) 0; have q1 := bC (hy) 1; have q2 := bC (hy) 2; have q3 := bC (hy) 3; have q4 := bC (hy) 4; have q5 := bC (hy) 5; have q6 := bC (hy) 6)
     (have p0 := bC (hxr) 0; have pf0 := bF (hxr) 0; have p1 := bC (hxr) 1; have pf1 := bF (hxr) 1; have p2 := bC (hxr) 2; have pf2 := bF (hxr) 2; have p3 := bC (hxr) 3; have pf3 := bF (hxr) 3; have p4 := bC (hxr) 4; have pf4 := bF (hxr) 4; have p5 := bC (hxr) 5; have pf5 := bF (hxr) 5; have p6 := bC (hxr) 6; have pf6 := bF (hxr) 6)
     have hx7l := blk_lt y7
     have hgl7 : g < w7.heap.size := by obtain ⟨_, _, q, _⟩ := h7.at_; exact blk_lt q
     go_wp2_with (fail)
     have P := put7 hxr (.int .i64 1) (.slice A3 s.types.length c3) (.int .i64 s.keys) (.int .i64 s.mode) (.int .i64 s.grain) (.slice Av ids.length cv) (.int .i64 id)
     (have e0 := bC (P.1) 0; have e1 := bC (P.1) 1; have e2 := bC (P.1) 2; have e3 := bC (P.1) 3; have e4 := bC (P.1) 4; have e5 := bC (P.1) 5; have e6 := bC (P.1) 6)
     (try simp only [Exit.inBlock, Exit.then])
     refine bodyPost_ret (v := recV 1 A3 c3 s Av cv ids id) (by simp [results, Tryz.results322, go_sem, e0, e1, e2, e3, e4, e5, e6]) rfl ?_
     have how := hown.free (intFree .i64) (G := fun k => F2 k ∨ k = g) (fun i hi => P.2.block i (hown.ge i hi).2 (by have := (hown.ge i hi).1; omega))
     obtain ⟨A9, c9, he, hs9⟩ := how.shut (F := fun k => F2 k ∨ k = g) (fun k q => by rcases q with q | q; (· have := (hF2 k q).2; have := blk_lt y7; omega); omega)
     simp only [Value.slice.injEq, true_and] at he
     obtain ⟨rfl, rfl⟩ := he
     refine ⟨A3, c3, Av, cv, rfl, ((hs7.keep (hK.mono (fun i _ q => by rcases q with q | q; exact .inr q; exact .inl (.inr (.inr q))))).keep (P.2.mono (fun i _ q => .inl (.inr (.inl q))))).narrow (by decide) (fun i _ q => by rcases q with q | q; exact .inl (.inl q); exact .inr q), hs9, hR.keep' P.2 (fun i q => by omega) (by omega), ?_⟩
     exact (((((((Keep.pre k3 hE2).or K4).or k5).or K6).or k7).or hK).or P.2).mono (fun i hi q => by rcases q with (((((q | q) | q) | q) | q) | q | q) | q <;> omega)
end K27
namespace K28
open Go Go.RowKit
open KB KB2 KB3 K1 K3 K6 K7 K8 K9 K14 K22 K23 K24 K25 K26 K27 Num
theorem takeAddC (F : Nat → Prop) (A : Option Addr) (c : Nat) (id : Nat) (hid : id ≤ 999999) (r l : List Int) (hl : l = recAdd id ++ r) (w : World) (hA : rdU8.Sl F w A c l) (hn : l.length ≤ 1000000) (hF : ∀ k, F k → k < w.heap.size) :
   Calls Tryz.prog 260 #[.slice A l.length c] w fun e w' => e = .returned (.tuple #[.agg #[.int .i64 2, .slice none 0 0, .int .i64 0, .int .i64 0, .int .i64 0, .slice none 0 0, .int .i64 id], .int .i64 (recAdd id).length, .int .i64 0]) ∧ Ext w w' := by
 have hp := pv_le10 id (by omega)
 have hbl : (bodyAdd id).length = (pv id).length + 1 := by simp [bodyAdd]
 have hx0 := bN w (.cells #[.int .i64 0, .slice none 0 0, .int .i64 0, .int .i64 0, .int .i64 0, .slice none 0 0, .int .i64 0] 92)
 have hE0 := (Ext.refl w).alloc (.cells #[.int .i64 0, .slice none 0 0, .int .i64 0, .int .i64 0, .int .i64 0, .slice none 0 0, .int .i64 0] 92)
 have huf := fun W hW hF => unframeC F A c (bodyAdd id) r l hl W hW (by omega) (by omega) hF
 have htk : l.take (recAdd id).length = recAdd id := by rw [hl]; exact List.take_left' rfl
 have hrl : (recAdd id).length ≤ l.length := by rw [hl, List.length_append]; omega
 have hle := hA.le
 have hmx := hA.max
 have hfr : (frame (bodyAdd id)).length = (recAdd id).length := rfl
 rw [hfr] at huf
 have HB : As ((bodyAdd id).drop 1 = pv id ++ []) := ⟨by simp [bodyAdd]⟩
 have HB0 : As (∃ h : 0 < (bodyAdd id).length, (bodyAdd id)[0] = 2) := ⟨⟨by omega, by simp [bodyAdd]⟩⟩
 have hpre := hA.pre (recAdd id).length
 rw [htk] at hpre
 have HPL := As.mk (show (recAdd id).length = (frame (bodyAdd id)).length from rfl)
 obtain ⟨N, hN⟩ : ∃ N, (recAdd id).length = N := ⟨_, rfl⟩
 rw [hN] at huf hrl
 have HN := As.mk hN
 rw [hbl] at huf
 have HM := As.mk hbl
 obtain ⟨q, hq⟩ : ∃ q, (pv id).length = q := ⟨_, rfl⟩
 rw [hq] at huf hp
 have HQ := As.mk hq
 have i0 : (0 : Int) ≤ (N : Int) := by omega
 have i1 : (N : Int) ≤ (c : Int) := by omega
 have d0 : ((q : Int) + 1 == 0) = false := beq_eq_false_iff_ne.mpr (by omega)
 clear htk hfr hl hN hbl hq
 go_enter Tryz.func260, Tryz.ntmps260
 go_wp2_with (fail)
 generalize (w.alloc (.cells #[.int .i64 0, .slice none 0 0, .int .i64 0, .int .i64 0, .int .i64 0, .slice none 0 0, .int .i64 0] 92)) = w0 at *
 obtain ⟨x, hx⟩ : ∃ x, w.heap.size = x := ⟨_, rfl⟩
 rw [hx] at hx0 ⊢
 have hxw : w.heap.size ≤ x := Nat.le_of_eq hx
 refine (huf w0 (hA.ext hE0) (FExt hF hE0)).mono ?_; rintro e w1 ⟨A1, c1, rfl, hs1, hE1⟩
 have hEw := hE0.trans hE1
 have hle1 := hs1.le
 obtain ⟨b, o, rfl, hb0⟩ := int_get hs1 HB0.out.choose
 rw [HB0.out.choose_spec, Nat.add_zero] at hb0
 obtain ⟨A2, hsl2, hS2⟩ := hs1.suf elU8 1 q 1 (by rw [HM.out]; omega) rfl (by rw [HM.out, HQ.out]; omega)
 rw [HM.out, HQ.out] at hsl2 hle1
 rw [HB.out] at hS2
 have hg0 := bN w1 (.cells #[.slice A2 q (c1 - 1), .bool false] 390)
 have hE2 := (Ext.refl w1).alloc (.cells #[.slice A2 q (c1 - 1), .bool false] 390)
 have hb2 := hE2.cell hb0
 obtain ⟨g, hg⟩ : ∃ g, w1.heap.size = g := ⟨_, rfl⟩
 rw [hg] at hg0
 have HG := As.mk hg
 clear hg hb0
 go_wp2_with (fail)
 rw [HG.out]
 have hRr : Rr F w1 (w1.alloc (.cells #[.slice A2 q (c1 - 1), .bool false] 390)) g (pv id ++ []) := ⟨hE2, Nat.le_of_eq HG.out, A2, c1 - 1, by rw [List.append_nil, HQ.out]; exact hg0, hS2⟩
 refine (recAddC F w1 g id hid (pv id ++ []) rfl (by rw [List.append_nil, HQ.out]; omega) _ hRr).mono ?_; rintro e w3 ⟨rfl, h3, k3⟩
 have hgl3 : g < w3.heap.size := Nat.lt_of_lt_of_le (blk_lt hg0) k3.size
 have hE3 : Ext w1 w3 := h3.ext
 obtain ⟨A3, c3, hb3, _⟩ := h3.at_
 have hxg : x < g := by have := blk_lt hx0; have := hE1.size; have := HG.out; omega
 have hx3 := k3.blk (by omega : ¬ x = g) (hE2.blk (hE1.blk hx0))
 have hy := bN w3 (.cells #[.int .i64 2, .slice none 0 0, .int .i64 0, .int .i64 0, .int .i64 0, .slice none 0 0, .int .i64 id] 92)
 have hE4 := (Ext.refl w3).alloc (.cells #[.int .i64 2, .slice none 0 0, .int .i64 0, .int .i64 0, .int .i64 0, .slice none 0 0, .int .i64 id] 92)
 have hyx : ¬ w3.heap.size = x := by have := hE3.size; have := HG.out; omega
 (have y0 := bC (hy) 0; have y1 := bC (hy) 1; have y2 := bC (hy) 2; have y3 := bC (hy) 3; have y4 := bC (hy) 4; have y5 := bC (hy) 5; have y6 := bC (hy) 6)
 go_wp2_with (fail)
 refine (putAddC F id hid _ (FExt hF ((hEw.trans hE3).trans hE4))).mono ?_; rintro e w5 ⟨A5, c5, rfl, hs5, hE5⟩
 have hE45 := hE4.trans hE5
 have hE5w := (hEw.trans hE3).trans hE45
 have hbe := bytesEqC F A5 A c5 c (recAdd id) w5 hs5 (hpre.ext hE5w)
 rw [HN.out] at hbe ⊢
 have hb5 := hE45.blk hb3
 have hy5 := hE5.blk hy
 have hx5 := hE45.blk hx3
 clear y0 y1 y2 y3 y4 y5 y6
 (have b0 := bC (hb5) 0; have b1 := bC (hb5) 1)
 (have y0 := bC (hy5) 0; have y1 := bC (hy5) 1; have y2 := bC (hy5) 2; have y3 := bC (hy5) 3; have y4 := bC (hy5) 4; have y5 := bC (hy5) 5; have y6 := bC (hy5) 6)
 (have p0 := bC (hx5) 0; have pf0 := bF (hx5) 0; have p1 := bC (hx5) 1; have pf1 := bF (hx5) 1; have p2 := bC (hx5) 2; have pf2 := bF (hx5) 2; have p3 := bC (hx5) 3; have pf3 := bF (hx5) 3; have p4 := bC (hx5) 4; have pf4 := bF (hx5) 4; have p5 := bC (hx5) 5; have pf5 := bF (hx5) 5; have p6 := bC (hx5) 6; have pf6 := bF (hx5) 6)
 go_wp2_with (fail)
 refine hbe.mono ?_; rintro e w' ⟨rfl, rfl⟩
 go_wp2_with (fail)
 have P := put7 hx5 (.int .i64 2) (.slice none 0 0) (.int .i64 0) (.int .i64 0) (.int .i64 0) (.slice none 0 0) (.int .i64 id)
 (have e0 := bC (P.1) 0; have e1 := bC (P.1) 1; have e2 := bC (P.1) 2; have e3 := bC (P.1) 3; have e4 := bC (P.1) 4; have e5 := bC (P.1) 5; have e6 := bC (P.1) 6)
 (try simp only [Exit.inBlock, Exit.then])
 refine bodyPost_ret (v := .tuple #[.agg #[.int .i64 2, .slice none 0 0, .int .i64 0, .int .i64 0, .int .i64 0, .slice none 0 0, .int .i64 id], .int .i64 N, .int .i64 0]) (by simp [results, Tryz.results260, go_sem, e0, e1, e2, e3, e4, e5, e6]) rfl ?_
 exact ⟨by rw [HN.out], hE5w.keepNew P.2 (fun i q => by omega)⟩
def restHead (s : Sch) (ids : List Int) (id : Nat) : List Int := pv (putSch s).length ++ (putSch s ++ (pv id ++ (pv ids.length ++ putN ids)))
theorem takeHeadC (F : Nat → Prop) (A : Option Addr) (c : Nat) (s : Sch) (hs : s.Ok) (ids : List Int) (hni : ids.length ≤ 40) (hv : ∀ n ∈ ids, 0 ≤ n ∧ n ≤ 999999) (id : Nat) (hid : id ≤ 999999) (r l : List Int) (hl : l = recHead s ids id ++ r) (w : World) (hA : rdU8.Sl F w A c l) (hn : l.length ≤ 1000000) (hF : ∀ k, F k → k < w.heap.size) :
   Calls Tryz.prog 260 #[.slice A l.length c] w fun e w' => ∃ As cs Ai ci, e = .returned (.tuple #[recV 1 As cs s Ai ci ids id, .int .i64 (recHead s ids id).length, .int .i64 0]) ∧ SchAt F w' As cs s ∧ (rdInt .i64).Sl F w' Ai ci ids ∧ Ext w w' := by
 have hp : (restHead s ids id).length ≤ 1000 := by
   have hp := pv_le10 id (by omega)
   have hp2 := pv_le10 ids.length (by omega)
   have hp3 := putN_le ids (fun n h => by have := hv n h; omega)
   have hpl : (putSch s).length ≤ 68 := by rw [putSch, putN_length _ (nums_small hs), nums_length]; have := hs.n2; omega
   have hp4 := pv_le10 (putSch s).length (by omega)
   simp only [restHead, List.length_append]; omega
 have hbl : (bodyHead s ids id).length = (restHead s ids id).length + 1 := by simp [bodyHead, restHead]
 have hx0 := bN w (.cells #[.int .i64 0, .slice none 0 0, .int .i64 0, .int .i64 0, .int .i64 0, .slice none 0 0, .int .i64 0] 92)
 have hE0 := (Ext.refl w).alloc (.cells #[.int .i64 0, .slice none 0 0, .int .i64 0, .int .i64 0, .int .i64 0, .slice none 0 0, .int .i64 0] 92)
 have huf := fun W hW hF => unframeC (fun k => F k ∨ k = w.heap.size) A c (bodyHead s ids id) r l hl W hW (by omega) (by omega) hF
 have htk : l.take (recHead s ids id).length = recHead s ids id := by rw [hl]; exact List.take_left' rfl
 have hrl : (recHead s ids id).length ≤ l.length := by rw [hl, List.length_append]; omega
 have hle := hA.le
 have hmx := hA.max
 have hfr : (frame (bodyHead s ids id)).length = (recHead s ids id).length := rfl
 rw [hfr] at huf
 have HB : As ((bodyHead s ids id).drop 1 = restHead s ids id) := ⟨by simp [bodyHead, restHead]⟩
 have HB0 : As (∃ h : 0 < (bodyHead s ids id).length, (bodyHead s ids id)[0] = 1) := ⟨⟨by omega, by simp [bodyHead, restHead]⟩⟩
 have hpre := hA.pre (recHead s ids id).length
 rw [htk] at hpre
 have HPL := As.mk (show (recHead s ids id).length = (frame (bodyHead s ids id)).length from rfl)
 obtain ⟨N, hN⟩ : ∃ N, (recHead s ids id).length = N := ⟨_, rfl⟩
 rw [hN] at huf hrl
 have HN := As.mk hN
 rw [hbl] at huf
 have HM := As.mk hbl
 obtain ⟨q, hq⟩ : ∃ q, (restHead s ids id).length = q := ⟨_, rfl⟩
 rw [hq] at huf hp
 have HQ := As.mk hq
 have i0 : (0 : Int) ≤ (N : Int) := by omega
 have i1 : (N : Int) ≤ (c : Int) := by omega
 have d0 : ((q : Int) + 1 == 0) = false := beq_eq_false_iff_ne.mpr (by omega)
 clear htk hfr hl hN hbl hq
 go_enter Tryz.func260, Tryz.ntmps260
 go_wp2_with (fail)
 generalize (w.alloc (.cells #[.int .i64 0, .slice none 0 0, .int .i64 0, .int .i64 0, .int .i64 0, .slice none 0 0, .int .i64 0] 92)) = w0 at *
 obtain ⟨x, hx⟩ : ∃ x, w.heap.size = x := ⟨_, rfl⟩
 have hA0 : rdU8.Sl (fun k => F k ∨ k = w.heap.size) w0 A c l := Rd.Sl.ext (hA.narrow (by decide) (fun k hk q => q.elim (fun q => q) (fun q => by omega))) hE0
 have hx0l := blk_lt hx0
 rw [hx] at hx0 hA0 huf ⊢
 have hxw : w.heap.size ≤ x := Nat.le_of_eq hx
 refine (huf w0 hA0 (fun k q => q.elim (FExt hF hE0 k) (fun q => by omega))).mono ?_; rintro e w1 ⟨A1, c1, rfl, hs1, hE1⟩
 have hEw := hE0.trans hE1
 have hle1 := hs1.le
 obtain ⟨b, o, rfl, hb0⟩ := int_get hs1 HB0.out.choose
 rw [HB0.out.choose_spec, Nat.add_zero] at hb0
 obtain ⟨A2, hsl2, hS2⟩ := hs1.suf elU8 1 q 1 (by rw [HM.out]; omega) rfl (by rw [HM.out, HQ.out]; omega)
 rw [HM.out, HQ.out] at hsl2 hle1
 rw [HB.out] at hS2
 have hg0 := bN w1 (.cells #[.slice A2 q (c1 - 1), .bool false] 390)
 have hE2 := (Ext.refl w1).alloc (.cells #[.slice A2 q (c1 - 1), .bool false] 390)
 have hb2 := hE2.cell hb0
 obtain ⟨g, hg⟩ : ∃ g, w1.heap.size = g := ⟨_, rfl⟩
 rw [hg] at hg0
 have HG := As.mk hg
 clear hg hb0
 go_wp2_with (fail)
 rw [HG.out]
 have hRr : Rr (fun k => F k ∨ k = x) w1 (w1.alloc (.cells #[.slice A2 q (c1 - 1), .bool false] 390)) g (restHead s ids id) := ⟨hE2, Nat.le_of_eq HG.out, A2, c1 - 1, by rw [HQ.out]; exact hg0, hS2⟩
 refine (recHeadC (fun k => F k ∨ k = x) (fun k => F k ∨ k = x) w1 g id s hs ids hni hv hid (restHead s ids id) rfl (by rw [HQ.out]; omega) _ hRr (fun k q => ⟨.inl q, q.elim (FExt hF (hEw.trans hE2) k) (fun q => by have := hE1.size; have := hE2.size; omega)⟩)).mono ?_; rintro e w3 ⟨As, cs, Ai, ci, rfl, hsA, hsi, h3, k3⟩
 have hgl3 : g < w3.heap.size := Nat.lt_of_lt_of_le (blk_lt hg0) k3.size
 have hE3 : Ext w1 w3 := h3.ext
 obtain ⟨A3, c3, hb3, _⟩ := h3.at_
 have hxg : x < g := by have := blk_lt hx0; have := hE1.size; have := HG.out; omega
 have hx3 := k3.blk (by omega : ¬ x = g) (hE2.blk (hE1.blk hx0))
 have hy := bN w3 (.cells #[.int .i64 1, .slice As s.types.length cs, .int .i64 s.keys, .int .i64 s.mode, .int .i64 s.grain, .slice Ai ids.length ci, .int .i64 id] 92)
 have hE4 := (Ext.refl w3).alloc (.cells #[.int .i64 1, .slice As s.types.length cs, .int .i64 s.keys, .int .i64 s.mode, .int .i64 s.grain, .slice Ai ids.length ci, .int .i64 id] 92)
 have hyx : ¬ w3.heap.size = x := by have := hE3.size; have := HG.out; omega
 (have y0 := bC (hy) 0; have y1 := bC (hy) 1; have y2 := bC (hy) 2; have y3 := bC (hy) 3; have y4 := bC (hy) 4; have y5 := bC (hy) 5; have y6 := bC (hy) 6)
 go_wp2_with (fail)
 refine (putHeadC F As Ai cs ci s ids id hid _ (Rd.Sl.ext (hsA.narrow (by decide) (fun k _ q => .inl (.inl q))) hE4) hs (Rd.Sl.ext (hsi.narrow (by decide) (fun k _ q => .inl (.inl q))) hE4) hni hv (FExt hF ((hEw.trans hE3).trans hE4))).mono ?_; rintro e w5 ⟨A5, c5, rfl, hs5, hE5⟩
 have hE45 := hE4.trans hE5
 have hE5w := (hEw.trans hE3).trans hE45
 have hbe := bytesEqC F A5 A c5 c (recHead s ids id) w5 hs5 (hpre.ext hE5w)
 rw [HN.out] at hbe ⊢
 have hb5 := hE45.blk hb3
 have hy5 := hE5.blk hy
 have hx5 := hE45.blk hx3
 clear y0 y1 y2 y3 y4 y5 y6
 (have b0 := bC (hb5) 0; have b1 := bC (hb5) 1)
 (have y0 := bC (hy5) 0; have y1 := bC (hy5) 1; have y2 := bC (hy5) 2; have y3 := bC (hy5) 3; have y4 := bC (hy5) 4; have y5 := bC (hy5) 5; have y6 := bC (hy5) 6)
 (have p0 := bC (hx5) 0; have pf0 := bF (hx5) 0; have p1 := bC (hx5) 1; have pf1 := bF (hx5) 1; have p2 := bC (hx5) 2; have pf2 := bF (hx5) 2; have p3 := bC (hx5) 3; have pf3 := bF (hx5) 3; have p4 := bC (hx5) 4; have pf4 := bF (hx5) 4; have p5 := bC (hx5) 5; have pf5 := bF (hx5) 5; have p6 := bC (hx5) 6; have pf6 := bF (hx5) 6)
 go_wp2_with (fail)
 refine hbe.mono ?_; rintro e w' ⟨rfl, rfl⟩
 go_wp2_with (fail)
 have P := put7 hx5 (.int .i64 1) (.slice As s.types.length cs) (.int .i64 s.keys) (.int .i64 s.mode) (.int .i64 s.grain) (.slice Ai ids.length ci) (.int .i64 id)
 (have e0 := bC (P.1) 0; have e1 := bC (P.1) 1; have e2 := bC (P.1) 2; have e3 := bC (P.1) 3; have e4 := bC (P.1) 4; have e5 := bC (P.1) 5; have e6 := bC (P.1) 6)
 (try simp only [Exit.inBlock, Exit.then])
 refine bodyPost_ret (v := .tuple #[.agg #[.int .i64 1, .slice As s.types.length cs, .int .i64 s.keys, .int .i64 s.mode, .int .i64 s.grain, .slice Ai ids.length ci, .int .i64 id], .int .i64 N, .int .i64 0]) (by simp [results, Tryz.results260, go_sem, e0, e1, e2, e3, e4, e5, e6]) rfl ?_
 have KP := P.2.mono (G := fun k => (F k ∨ k = x) ∨ k = g) (fun k _ q => .inl (.inr q))
 exact ⟨As, cs, Ai, ci, by rw [HN.out], ((Rd.Sl.ext hsA hE45).keep KP).narrow (by decide) (fun k _ q => .inl (.inl q)), ((Rd.Sl.ext hsi hE45).keep KP).narrow (by decide) (fun k _ q => .inl (.inl q)), hE5w.keepNew P.2 (fun i q => by omega)⟩
end K28
end Go.Proofs.YtbjeejimedhniaaGreatDoor
