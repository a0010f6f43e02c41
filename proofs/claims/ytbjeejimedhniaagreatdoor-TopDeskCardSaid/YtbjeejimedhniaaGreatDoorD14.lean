/- Contracts of the program's functions, as the walks of the law use them. -/
import Derived.Test.YtbjeejimedhniaaGreatDoorD13
import Derived.Test.YtbjeejimedhniaaGreatDoorD7
import Derived.Test.YtbjeejimedhniaaGreatDoorD2
import Derived.Test.YtbjeejimedhniaaGreatDoorD12
import Derived.Test.YtbjeejimedhniaaGreatDoorD10
import Derived.Shelf.Slices.Turned
import Derived.Test.YtbjeejimedhniaaGreatDoorProg
import Derived.Shelf.Strconv.Itoa3
import Derived.Test.YtbjeejimedhniaaGreatDoorD8
import Derived.Test.YtbjeejimedhniaaGreatDoorD1
import Derived.Deep.RegionLaw
set_option linter.unusedVariables false
set_option linter.unusedSimpArgs false
set_option maxRecDepth 100000
set_option maxHeartbeats 2000000
namespace Go.Proofs.YtbjeejimedhniaaGreatDoor
namespace K67
open Go Go.RowKit Go.Maps
open KB K1 K2 K3 K5 K9 K33 K66
theorem lastC (t : Int) (a b : Val) (w : World) : Calls Tryz.prog 338 #[.int .i64 t, valV a, valV b] w fun e w' => e = .returned (valV b) ∧ Ext w w' := by
 have hE := (((Ext.refl w).alloc (.cells #[.int .i64 a.1, .string a.2] 33)).alloc (.cells #[.int .i64 b.1, .string b.2] 33)).alloc (.cells #[.int .i64 b.1, .string b.2] 33)
 have B := bN ((w.alloc (.cells #[.int .i64 a.1, .string a.2] 33)).alloc (.cells #[.int .i64 b.1, .string b.2] 33)) (.cells #[.int .i64 b.1, .string b.2] 33)
 rw [World.size_alloc, World.size_alloc] at B
 have e0 := bC B 0
 have e1 := bC B 1
 go_enter Tryz.func338, Tryz.ntmps338
 go_wp2_with (fail)
 refine bodyPost_ret (v := valV b) (by simp [results, Tryz.results338, go_sem, e0, e1]) rfl ?_
 exact ⟨rfl, hE⟩
def joinOf (m : Nat) (k : Bool) (t : Int) (x y : Val) : Val := if m = 3 ∧ k = false then addV t x y else y
def joinV (m : Nat) (k : Bool) : Value := if m = 3 ∧ k = false then fAdd else fLast
theorem joinLook {w : World} {b : Nat} (h : TblMap Tryz.prog 373 TJ w b JES) (m : Nat) (k : Bool) (h1 : 1 ≤ m) (h3 : m ≤ 3) : (Instr.lookup 370 (.map (some b)) (kV m k) false).run Tryz.prog w = .ok (joinV m k) w := by
 have hm : m = 1 ∨ m = 2 ∨ m = 3 := by omega
 have hl := fun v hv hm2 => h.look kindLaw Tryz.underlying370 (zeroFn w) (by simp [TJ]) (kOk m k (by rcases hm with rfl | rfl | rfl <;> simp)) (v := v) hm2 hv
 rcases hm with rfl | rfl | rfl <;> cases k
 · exact hl fLast (by simp [TJ]) (by simp [JES])
 · exact hl fLast (by simp [TJ]) (by simp [JES])
 · exact hl fLast (by simp [TJ]) (by simp [JES])
 · exact hl fLast (by simp [TJ]) (by simp [JES])
 · exact hl fAdd (by simp [TJ]) (by simp [JES])
 · exact hl fLast (by simp [TJ]) (by simp [JES])
def oneAt (s : Sch) (a b : Row) (i : Nat) : Val := joinOf s.mode (decide (i < s.keys)) (s.types.getD i 0) (a.getD i (0, emp)) (b.getD i (0, emp))
def oneS (s : Sch) (a b : Row) : Row := (List.range s.types.length).map (oneAt s a b)
def oneK (s : Sch) (a b : Row) (k : Nat) : Row := (List.range s.types.length).map fun i => if i < k then oneAt s a b i else (0, emp)
theorem oneK_zero (s : Sch) (a b : Row) : oneK s a b 0 = List.replicate s.types.length (0, emp) := by
 refine List.ext_getElem? fun i => ?_
 simp only [oneK, List.getElem?_map, List.getElem?_replicate, Nat.not_lt_zero, if_false]
 by_cases h : i < s.types.length
 · rw [List.getElem?_range h, if_pos h]; rfl
 · rw [List.getElem?_eq_none (by simp; omega), if_neg h]; rfl
theorem oneK_all (s : Sch) (a b : Row) : oneK s a b s.types.length = oneS s a b := by
 refine List.map_congr_left fun i hi => ?_
 rw [if_pos (List.mem_range.1 hi)]
theorem oneK_succ (s : Sch) (a b : Row) (k : Nat) (hk : k < s.types.length) : oneK s a b (k + 1) = (oneK s a b k).set k (oneAt s a b k) := by
 refine List.ext_getElem? fun i => ?_
 have hl : (oneK s a b k).length = s.types.length := by simp [oneK]
 rw [List.getElem?_set, hl]
 simp only [oneK, List.getElem?_map]
 by_cases h : i < s.types.length
 · rw [List.getElem?_range h]
   by_cases e : k = i
   · subst e; simp [hk]
   · have : (i < k + 1) ↔ (i < k) := by omega
     simp [e, this]
 · rw [List.getElem?_eq_none (l := List.range s.types.length) (by simp; omega), if_neg (by omega)]; rfl
theorem oneK_len (s : Sch) (a b : Row) (k : Nat) : (oneK s a b k).length = s.types.length := by simp [oneK]
theorem own_val {F : Nat → Prop} {B : Nat} {w : World} {g n cap : Nat} {l : List Val} (h : rdVal.Own F B 33 w (.slice (some ⟨g, 0, none⟩) n cap) l) {i : Nat} (hi : i < l.length) (y : Val) :
   rdVal.Own F B 33 ((w.setCell ⟨g, i * 2, none⟩ (.int .i64 y.1)).setCell ⟨g, i * 2 + 1, none⟩ (.string y.2)) (.slice (some ⟨g, 0, none⟩) n cap) (l.set i y) := by
 have h1 := h.setj hi (j := 0) (by decide) (u := .int .i64 y.1) (y := (y.1, l[i].2)) (fun cs hcs => by
   have hcs : cs = [.int .i64 l[i].1, .string l[i].2] := hcs
   subst hcs; rfl)
 have hil : i < (l.set i (y.1, l[i].2)).length := by simpa using hi
 have h2 := h1.setj hil (j := 1) (by decide) (u := .string y.2) (y := y) (fun cs hcs => by
   rw [List.getElem_set_self] at hcs
   have hcs : cs = [.int .i64 y.1, .string l[i].2] := hcs
   subst hcs; rfl)
 rw [List.set_set] at h2
 exact h2
theorem joinFnC (m : Nat) (k : Bool) (t : Int) (x y : Val) (hx : ValOk t x) (hy : ValOk t y) (fn : Nat) (hfn : joinV m k = .func (.func fn) #[] #[]) (w : World) : Calls Tryz.prog fn #[.int .i64 t, valV x, valV y] w fun e w' => e = .returned (valV (joinOf m k t x y)) ∧ Ext w w' := by
 unfold joinV at hfn
 unfold joinOf
 split at hfn
 · rename_i h
   rw [if_pos h]
   injection hfn with h1 _ _
   injection h1 with h1
   subst h1
   exact addC t x y hx hy w
 · rename_i h
   rw [if_neg h]
   injection hfn with h1 _ _
   injection h1 with h1
   subst h1
   exact lastC t x y w
theorem oneC (F : Nat → Prop) (Ax : Option Addr) (cx : Nat) (s : Sch) (hs : s.Ok) (Aa Ab : Option Addr) (ca cb : Nat) (a b : Row) (w : World) (hA : SchAt F w Ax cx s) (ha : rdVal.Sl F w Aa ca a) (hb : rdVal.Sl F w Ab cb b) (oa : RowOk s a) (ob : RowOk s b) (hF : ∀ k, F k → k < w.heap.size) :
   Calls Tryz.prog 216 #[schV Ax cx s, .slice Aa a.length ca, .slice Ab b.length cb] w fun e w' => ∃ A' c', e = .returned (.slice A' (oneS s a b).length c') ∧ rdVal.Sl F w' A' c' (oneS s a b) ∧ Ext w w' := by
 obtain ⟨x, hx⟩ : ∃ x, w.heap.size = x := ⟨_, rfl⟩
 have hn := hs.n2
 have HLA := As.mk oa.len
 have HLB := As.mk ob.len
 have B1 := bN w (.cells #[.slice Ax s.types.length cx, .int .i64 s.keys, .int .i64 s.mode, .int .i64 s.grain] 27)
 have hE1 := (Ext.refl w).alloc (.cells #[.slice Ax s.types.length cx, .int .i64 s.keys, .int .i64 s.mode, .int .i64 s.grain] 27)
 go_enter Tryz.func216, Tryz.ntmps216
 go_wp2_with (fail)
 generalize (w.alloc (.cells #[.slice Ax s.types.length cx, .int .i64 s.keys, .int .i64 s.mode, .int .i64 s.grain] 27)) = w1 at *
 refine (joinsC w1).mono ?_; rintro e w2 ⟨rfl, hT, hE2⟩
 have hmb := hT.lt
 generalize w1.heap.size = mb at *
 have B2 := hE2.blk B1
 rw [hx] at B2
 have hE02 := hE1.trans hE2
 (have p0 := bC (B2) 0; have p1 := bC (B2) 1; have p2 := bC (B2) 2; have p3 := bC (B2) 3)
 go_wp2_with (at_make; refine wpList_makeN rfl (.tmp 13) (.tmp 13) 41 rfl rdVal (F := F) (B := w2.heap.size) elVal (n := b.length) rfl rfl rfl (by have := HLB.out; omega) (by decide) (Nat.le_refl _) _ rfl (z0 := .agg #[.int .i64 0, .string ⟨#[]⟩]) (by kernel_rfl) (y0 := (0, emp)) (fun _ _ => rfl) ?_; intro w3 hown hzs3 hE3 hw3; have q0 := hE3.cell p0)
 rw [HLB.out, ← oneK_zero s a b, ← HLB.out] at hown
 have hT3 := hT.ext hE3
 have hE03 := hE02.trans hE3
 generalize hog : w2.heap.size = og at *
 have hogw : w.heap.size ≤ og := by have := hE02.size; omega
 have hA3 : SchAt (fun j => F j ∨ j = og) w3 Ax cx s := Rd.Sl.ext (Rd.Sl.narrow (by decide) hA (fun j hj q => q.elim id (fun e => by omega))) hE03
 have ha3 : rdVal.Sl (fun j => F j ∨ j = og) w3 Aa ca a := Rd.Sl.ext (Rd.Sl.narrow (by decide) ha (fun j hj q => q.elim id (fun e => by omega))) hE03
 have hb3 : rdVal.Sl (fun j => F j ∨ j = og) w3 Ab cb b := Rd.Sl.ext (Rd.Sl.narrow (by decide) hb (fun j hj q => q.elim id (fun e => by omega))) hE03
 have B3 := hE3.blk B2
 have hxo : ¬ x = og := by have := blk_lt B2; omega
 have hmo : ¬ mb = og := by have := hT.lt; omega
 have hk1 := hs.k1
 have hm1 := hs.m1
 have hm2 := hs.m2
 clear hA ha hb hzs3 p0 p1 p2 p3 q0
 go_loopw [18] (fun i wr => ∃ k : Nat, i = .int .i64 k ∧ k ≤ s.types.length ∧ rdVal.Own F og 33 wr (.slice (some ⟨og, 0, none⟩) b.length b.length) (oneK s a b k) ∧ Keep (fun j => j = og) w3 wr) (fun i _ => s.types.length - (intOf i).toNat)
 case atStart => exact ⟨0, by go_num, Nat.zero_le _, hown, Keep.refl _ _⟩
 case round =>
   obtain ⟨k, rfl, hkl, hO, hK⟩ := hrel
   by_cases hlt : k < s.types.length
   · have hka : k < a.length := by rw [HLA.out]; exact hlt
     have hkb : k < b.length := by rw [HLB.out]; exact hlt
     have kF := hK.mono (G := fun j => F j ∨ j = og) (fun _ _ q => .inr q)
     obtain ⟨bt, ot, rfl, ht⟩ := int_get (Rd.Sl.keep hA3 kF) hlt
     obtain ⟨ba, oa', rfl, a0, a1⟩ := val_get (Rd.Sl.keep ha3 kF) hka
     obtain ⟨bb, ob', rfl, b0, b1⟩ := val_get (Rd.Sl.keep hb3 kF) hkb
     have hBr := hK.blk hxo B3
     have hTr := hT3.keep hK hmo
     (have p0 := bC (hBr) 0; have p1 := bC (hBr) 1; have p2 := bC (hBr) 2; have p3 := bC (hBr) 3)
     have d1 : (k : Int) < s.types.length := by omega
     have hjl := fun W (hW : TblMap Tryz.prog 373 TJ W mb JES) => joinLook hW s.mode (decide (k < s.keys)) hm1 hm2
     have hdk : decide ((k : Int) < (s.keys : Int)) = decide (k < s.keys) := by simp
     have hjc := fun fn hfn W => joinFnC s.mode (decide (k < s.keys)) s.types[k] a[k] b[k] (oa.val k hlt hka) (ob.val k hlt hkb) fn hfn W
     have hlk : k < (oneK s a b k).length := by rw [oneK_len]; exact hlt
     obtain ⟨cs0, hcs0, ho0, hof⟩ := hO.cellj (i := k) (by rw [oneK_len]; exact hlt)
     have hcs0 : cs0 = [.int .i64 (oneK s a b k)[k].1, .string (oneK s a b k)[k].2] := hcs0
     subst hcs0
     have o0 := ho0 0 _ rfl
     have o1 := ho0 1 _ rfl
     rw [show k * rdVal.sz + 0 = k * 2 from rfl] at o0
     rw [show k * rdVal.sz + 1 = k * 2 + 1 from rfl] at o1
     have of0 := hof (k * 2)
     have of1 := hof (k * 2 + 1)
     have hogr : og < wr.heap.size := World.block_lt_of_cell? _ _ o0
     clear ho0 hof
     generalize (oneK s a b k)[k] = z0 at o0 o1
     have hyv : oneAt s a b k = joinOf s.mode (decide (k < s.keys)) s.types[k] a[k] b[k] := by
       unfold oneAt
       simp [List.getD_eq_getElem?_getD, hlt, hka, hkb]
     have HY := As.mk hyv
     clear hyv
     have nba : ¬ ba = og := fun e => by have := (Rd.Sl.keep ha3 kF).get hka; obtain ⟨b9, o9, e9, h9, _⟩ := this; cases e9; exact h9 (.inr e)
     have nbb : ¬ bb = og := fun e => by have := (Rd.Sl.keep hb3 kF).get hkb; obtain ⟨b9, o9, e9, h9, _⟩ := this; cases e9; exact h9 (.inr e)
     have HE := As.mk hdk
     by_cases hsum : s.mode = 3 ∧ decide (k < s.keys) = false
     · have hfv : joinV s.mode (decide (k < s.keys)) = fAdd := by unfold joinV; rw [if_pos hsum]
       rw [hfv] at hjl
       have hjc' := hjc 339 hfv
       have HSUM := As.mk hsum
       clear hjc hsum hfv
       have keep : ∀ w', Keep (fun j => j = og) wr w' → Keep (fun j => j = og) wr w' ∧ w'.cell? ⟨x, 1, none⟩ = some (.int .i64 s.keys) ∧ w'.cell? ⟨x, 2, none⟩ = some (.int .i64 s.mode) ∧ w'.cell? ⟨ba, oa' + k * 2, none⟩ = some (.int .i64 a[k].1) ∧ w'.cell? ⟨ba, oa' + k * 2 + 1, none⟩ = some (.string a[k].2) ∧ w'.cell? ⟨bb, ob' + k * 2, none⟩ = some (.int .i64 b[k].1) ∧ w'.cell? ⟨bb, ob' + k * 2 + 1, none⟩ = some (.string b[k].2) ∧ (Instr.lookup 370 (.map (some mb)) (.agg #[.int .i64 s.mode, .bool (decide (k < s.keys))]) false).run Tryz.prog w' = .ok fAdd w' := fun w' h => ⟨h, h.cell hxo p1, h.cell hxo p2, h.cell nba a0, h.cell nba a1, h.cell nbb b0, h.cell nbb b1, hjl _ (hTr.keep h hmo)⟩
       go_wp2_with (fail)
       go_region_held3 (fun w' => Keep (fun j => j = og) wr w' ∧ w'.cell? ⟨x, 1, none⟩ = some (.int .i64 s.keys) ∧ w'.cell? ⟨x, 2, none⟩ = some (.int .i64 s.mode) ∧ w'.cell? ⟨ba, oa' + k * 2, none⟩ = some (.int .i64 a[k].1) ∧ w'.cell? ⟨ba, oa' + k * 2 + 1, none⟩ = some (.string a[k].2) ∧ w'.cell? ⟨bb, ob' + k * 2, none⟩ = some (.int .i64 b[k].1) ∧ w'.cell? ⟨bb, ob' + k * 2 + 1, none⟩ = some (.string b[k].2) ∧ (Instr.lookup 370 (.map (some mb)) (.agg #[.int .i64 s.mode, .bool (decide (k < s.keys))]) false).run Tryz.prog w' = .ok fAdd w') (((try dsimp only); refine keep _ ?_; first | with_reducible assumption | exact (Ext.keep (w := wr) XE _) | exact (hx5.keep _).trans ((kS1 _ _ _ _).trans (kS1 _ _ _ _)))) (first | (go_at_call 339; refine (hjc' _).mono ?_; rintro e w5 ⟨rfl, hE5⟩; have hx5 : Ext wr w5 := Ext.trans XE hE5; have s0 := hx5.cell o0; have s1 := hx5.cell o1; have sf0 := hx5.froz hogr of0; have sf1 := hx5.froz hogr of1))
       all_goals
         (try simp only [Exit.inBlock, Exit.then])
         go_wp2_with (fail)
         have hO5 := own_val (hO.ext hx5) hlk (joinOf s.mode (decide (k < s.keys)) s.types[k] a[k] b[k])
         rw [← HY.out, ← oneK_succ s a b k hlt] at hO5
         have hK5 := hK.trans ((hx5.keep (fun j => j = og)).trans ((kS1 w5 og (k * 2) (.int .i64 (oneAt s a b k).1)).trans (kS1 _ og (k * 2 + 1) (.string (oneAt s a b k).2))))
         rw [HY.out] at hO5 hK5
         go_roundw
         case rel => exact ⟨k + 1, by go_num, by omega, hO5, hK5⟩
         case measure => simp [intOf] <;> omega
     · have hfv : joinV s.mode (decide (k < s.keys)) = fLast := by unfold joinV; rw [if_neg hsum]
       rw [hfv] at hjl
       have hjc' := hjc 338 hfv
       have HSUM := As.mk hsum
       clear hjc hsum hfv
       have keep : ∀ w', Keep (fun j => j = og) wr w' → Keep (fun j => j = og) wr w' ∧ w'.cell? ⟨x, 1, none⟩ = some (.int .i64 s.keys) ∧ w'.cell? ⟨x, 2, none⟩ = some (.int .i64 s.mode) ∧ w'.cell? ⟨ba, oa' + k * 2, none⟩ = some (.int .i64 a[k].1) ∧ w'.cell? ⟨ba, oa' + k * 2 + 1, none⟩ = some (.string a[k].2) ∧ w'.cell? ⟨bb, ob' + k * 2, none⟩ = some (.int .i64 b[k].1) ∧ w'.cell? ⟨bb, ob' + k * 2 + 1, none⟩ = some (.string b[k].2) ∧ (Instr.lookup 370 (.map (some mb)) (.agg #[.int .i64 s.mode, .bool (decide (k < s.keys))]) false).run Tryz.prog w' = .ok fLast w' := fun w' h => ⟨h, h.cell hxo p1, h.cell hxo p2, h.cell nba a0, h.cell nba a1, h.cell nbb b0, h.cell nbb b1, hjl _ (hTr.keep h hmo)⟩
       go_wp2_with (fail)
       go_region_held3 (fun w' => Keep (fun j => j = og) wr w' ∧ w'.cell? ⟨x, 1, none⟩ = some (.int .i64 s.keys) ∧ w'.cell? ⟨x, 2, none⟩ = some (.int .i64 s.mode) ∧ w'.cell? ⟨ba, oa' + k * 2, none⟩ = some (.int .i64 a[k].1) ∧ w'.cell? ⟨ba, oa' + k * 2 + 1, none⟩ = some (.string a[k].2) ∧ w'.cell? ⟨bb, ob' + k * 2, none⟩ = some (.int .i64 b[k].1) ∧ w'.cell? ⟨bb, ob' + k * 2 + 1, none⟩ = some (.string b[k].2) ∧ (Instr.lookup 370 (.map (some mb)) (.agg #[.int .i64 s.mode, .bool (decide (k < s.keys))]) false).run Tryz.prog w' = .ok fLast w') (((try dsimp only); refine keep _ ?_; first | with_reducible assumption | exact (Ext.keep (w := wr) XE _) | exact (hx5.keep _).trans ((kS1 _ _ _ _).trans (kS1 _ _ _ _)))) (first | (go_at_call 338; refine (hjc' _).mono ?_; rintro e w5 ⟨rfl, hE5⟩; have hx5 : Ext wr w5 := Ext.trans XE hE5; have s0 := hx5.cell o0; have s1 := hx5.cell o1; have sf0 := hx5.froz hogr of0; have sf1 := hx5.froz hogr of1))
       all_goals
         (try simp only [Exit.inBlock, Exit.then])
         go_wp2_with (fail)
         have hO5 := own_val (hO.ext hx5) hlk (joinOf s.mode (decide (k < s.keys)) s.types[k] a[k] b[k])
         rw [← HY.out, ← oneK_succ s a b k hlt] at hO5
         have hK5 := hK.trans ((hx5.keep (fun j => j = og)).trans ((kS1 w5 og (k * 2) (.int .i64 (oneAt s a b k).1)).trans (kS1 _ og (k * 2 + 1) (.string (oneAt s a b k).2))))
         rw [HY.out] at hO5 hK5
         go_roundw
         case rel => exact ⟨k + 1, by go_num, by omega, hO5, hK5⟩
         case measure => simp [intOf] <;> omega
   · obtain rfl : k = s.types.length := by omega
     obtain ⟨A', c', he, hs'⟩ := hO.shut (fun j q => by have := hF j q; omega)
     rw [oneK_all] at he hs'
     go_wp2
     go_ret
     exact ⟨A', c', by rw [← he]; rfl, hs', hE03.keepNew hK (fun j q => by omega)⟩
end K67
namespace K68
open Go Go.RowKit Go.Maps
open KB KB2 K1 K2 K3 K5 P2 P3 K65 K67
theorem addV_ok {t : Int} {x y : Val} (hx : ValOk t x) (hy : ValOk t y) : ValOk t (addV t x y) := by
 unfold addV
 split
 · exact hy
 · rename_i h
   refine ⟨by unfold I64 wrap64; constructor <;> simp only <;> omega, .inl ⟨?_, rfl⟩⟩
   rcases hx.2 with q | q
   · exact q.1
   · exact absurd q.1 h
theorem joinOf_ok {m : Nat} {k : Bool} {t : Int} {x y : Val} (hx : ValOk t x) (hy : ValOk t y) : ValOk t (joinOf m k t x y) := by
 unfold joinOf; split
 · exact addV_ok hx hy
 · exact hy
theorem oneS_ok {s : Sch} {a b : Row} (ha : RowOk s a) (hb : RowOk s b) : RowOk s (oneS s a b) := by
 refine ⟨by simp [oneS], fun i h1 h2 => ?_⟩
 have h3 : i < a.length := by rw [ha.len]; exact h1
 have h4 : i < b.length := by rw [hb.len]; exact h1
 simp only [oneS, List.getElem_map, List.getElem_range]
 unfold oneAt
 simp only [List.getD_eq_getElem?_getD, List.getElem?_eq_getElem h1, List.getElem?_eq_getElem h3, List.getElem?_eq_getElem h4, Option.getD_some]
 exact joinOf_ok (ha.val i h1 h3) (hb.val i h1 h4)
def foldS (s : Sch) (l : List Row) : List Row := if s.mode = 1 then l else foldL (cmpS s) (oneS s) l
theorem foldStep_ok {s : Sch} {out : List Row} {r : Row} (ho : ∀ x ∈ out, RowOk s x) (hr : RowOk s r) : ∀ x ∈ foldStep (cmpS s) (oneS s) out r, RowOk s x := by
 rcases snoc_cases out with e | ⟨m, o, e⟩
 · subst e; intro x hx; simp [foldStep_nil] at hx; rw [hx]; exact hr
 · subst e
   rw [foldStep_snoc]
   intro x hx
   have hm : ∀ x ∈ m, RowOk s x := fun x hx => ho x (by simp [hx])
   have hoo := ho o (by simp)
   split at hx
   · rcases List.mem_append.1 hx with q | q
     · exact hm x q
     · simp at q; rw [q]; exact oneS_ok hoo hr
   · rcases List.mem_append.1 hx with q | q
     · exact ho x q
     · simp at q; rw [q]; exact hr
theorem foldStep_len (c : Row → Row → Int) (one : Row → Row → Row) (out : List Row) (r : Row) : (foldStep c one out r).length ≤ out.length + 1 := by
 rcases snoc_cases out with e | ⟨m, o, e⟩
 · subst e; simp [foldStep_nil]
 · subst e
   rw [foldStep_snoc]
   split <;> simp
theorem foldFC (F : Nat → Prop) (Ax : Option Addr) (cx : Nat) (s : Sch) (hs : s.Ok) (hm : s.mode ≠ 1) (A : Option Addr) (c : Nat) (l : List Row) (w : World) (hA : SchAt F w Ax cx s) (hl : rdRow.Sl F w A c l) (hn : l.length ≤ 100000) (ho : ∀ r ∈ l, RowOk s r) (hF : ∀ k, F k → k < w.heap.size) :
   Calls Tryz.prog 116 #[schV Ax cx s, .slice A l.length c] w fun e w' => ∃ A' c', e = .returned (.slice A' (foldL (cmpS s) (oneS s) l).length c') ∧ rdRow.Sl F w' A' c' (foldL (cmpS s) (oneS s) l) ∧ Ext w w' := by
 obtain ⟨x, hx⟩ : ∃ x, w.heap.size = x := ⟨_, rfl⟩
 have B1 := bN w (.cells #[.slice Ax s.types.length cx, .int .i64 s.keys, .int .i64 s.mode, .int .i64 s.grain] 27)
 have hE1 := (Ext.refl w).alloc (.cells #[.slice Ax s.types.length cx, .int .i64 s.keys, .int .i64 s.mode, .int .i64 s.grain] 27)
 have hsz1 : (w.alloc (.cells #[.slice Ax s.types.length cx, .int .i64 s.keys, .int .i64 s.mode, .int .i64 s.grain] 27)).heap.size = x + 1 := by simp [hx]
 have dm : (((s.mode : Nat) : Int) == 1) = false := by simp; omega
 have dm' : decide (((s.mode : Nat) : Int) = 1) = false := decide_eq_false (by omega)
 go_enter Tryz.func116, Tryz.ntmps116
 go_wp2_with (fail)
 generalize (w.alloc (.cells #[.slice Ax s.types.length cx, .int .i64 s.keys, .int .i64 s.mode, .int .i64 s.grain] 27)) = w1 at *
 rw [hx] at B1
 have hF1 : ∀ k, F k → k < x + 1 := fun k q => by have := hF k q; omega
 have hA1 : SchAt F w1 Ax cx s := Rd.Sl.ext hA hE1
 have hl1 := hl.ext hE1
 clear hA hl
 go_loopw [5, 16] (fun v i wr => ∃ (k : Nat) (out : List Row), i = .int .i64 k ∧ k ≤ l.length ∧ out = foldL (cmpS s) (oneS s) (l.take k) ∧ rdRow.Own F (x + 1) 41 wr v out ∧ (∀ r ∈ out, RowOk s r) ∧ out.length ≤ k ∧ Ext w1 wr) (fun _ i _ => l.length - (intOf i).toNat)
 case atStart => exact ⟨0, [], by go_num, Nat.zero_le _, rfl, Rd.Own.nil _ _ _ _ _, (fun r hr => by cases hr), Nat.le_refl _, Ext.refl _⟩
 case round =>
   obtain ⟨k, out, rfl, hkl, hout, hown, hok, hol, hE⟩ := hrel
   by_cases hlt : k < l.length
   · obtain ⟨b, o, A2, c2, rfl, hc, hcr⟩ := sl_get (far0 rdRow (by decide) hl1 (p := fun _ => True) (fun g hg => ⟨by rw [hsz1]; exact (hown.ge g hg).1, trivial⟩)) hlt
     replace hc := hE.cell hc
     replace hcr := hcr.ext hE
     have hT := take_snoc l hlt
     have hnext : foldL (cmpS s) (oneS s) (l.take (k + 1)) = foldStep (cmpS s) (oneS s) out l[k] := by rw [hT, foldL_snoc, hout]
     have HN := As.mk hnext
     have hrk := ho l[k] (List.getElem_mem hlt)
     have hok' := foldStep_ok hok hrk
     have hlen' := foldStep_len (cmpS s) (oneS s) out l[k]
     have HOK := As.mk hok'
     clear hnext hT hout hok'
     have d1 : (k : Int) < l.length := by omega
     have hBr := hE.blk B1
     rcases snoc_cases out with rfl | ⟨m, o1, rfl⟩
     · rw [foldStep_nil] at HN HOK
       obtain ⟨A9, c9, rfl, hc9, _⟩ := own_len hown
       go_wp2_with (fail)
       go_region
       (try simp only [Exit.inBlock, Exit.then])
       go_wp2_with (first | (at_builtin; refine wpList_pushAt rfl (.tmp 45) (.tmp 47) 42 rfl rdRow elRow rfl (hown.ext ((Ext.refl wr).drew.alloc _)) rfl (heap_alloc_new _ _) (y := l[k]) (sl_Cn (Rd.Sl.ext hcr ((Ext.refl wr).drew.alloc _)) rfl) (by simp) (by unfold maxLen; simp) (by have := hE.size; simp; omega) ?_; intro v' w4 hown4 hg4 hat4))
       go_roundw
       case rel => exact ⟨k + 1, [l[k]], by go_num, by omega, HN.out.symm, hown4, HOK.out, by simp, ((hE.drew).alloc _).grown hg4 (fun j hj => by rw [hsz1]; exact (hown.ge j hj).1)⟩
       case measure => simp [intOf] <;> omega
     · obtain ⟨g, cap, rfl, hg, hgs⟩ := own_some hown (by simp)
       obtain ⟨cs0, ⟨A4, c4, rfl, hs4⟩, hcel, hfro⟩ := hown.cellj (i := m.length) (by simp)
       have o0 := hcel 0 _ rfl
       rw [show m.length * rdRow.sz + 0 = m.length from Nat.mul_one _] at o0
       have of0 := hfro m.length
       simp only [List.getElem_concat_length] at o0 hs4
       have hob := hok o1 (by simp)
       simp only [List.length_append, List.length_cons, List.length_nil, Nat.zero_add] at hol hlen' hs4 hown hcr o0
       have hw1 : IntKind.i64.wrap (((m.length + 1 : Nat) : Int) - 1) = (m.length : Int) := by rw [IntKind.wrap_i64]; omega
       have d2 : decide ((0 : Int) ≤ (m.length : Int)) = true := decide_eq_true (by omega)
       have d3 : (m.length : Int) < ((m.length + 1 : Nat) : Int) := by omega
       have d3' : (m.length : Int) < (m.length : Int) + 1 := by omega
       have d4 : (0 : Int) ≤ (m.length : Int) := by omega
       have hxg : x < wr.heap.size := blk_lt hBr
       have hFv : ∀ j, Fv F (.slice (some ⟨g, 0, none⟩) (m.length + 1) cap) j → j < wr.heap.size := fun j q => by
         rcases q with q | q
         · have := hF1 j q; omega
         · cases q; exact hgs
       have hAv : SchAt (Fv F (.slice (some ⟨g, 0, none⟩) (m.length + 1) cap)) wr Ax cx s := Rd.Sl.ext (far0 (rdInt .i64) (by decide) hA1 (p := fun _ => True) (fun j q => by cases q; exact ⟨by rw [hsz1]; exact hg, trivial⟩)) hE
       (have p0 := bC (hBr) 0; have p1 := bC (hBr) 1; have p2 := bC (hBr) 2; have p3 := bC (hBr) 3)
       have keep : ∀ w', Ext wr w' → Ext wr w' ∧ w'.cell? ⟨x, 0, none⟩ = some (.slice Ax s.types.length cx) ∧ w'.cell? ⟨x, 1, none⟩ = some (.int .i64 s.keys) ∧ w'.cell? ⟨x, 2, none⟩ = some (.int .i64 s.mode) ∧ w'.cell? ⟨x, 3, none⟩ = some (.int .i64 s.grain) ∧ w'.cell? ⟨g, m.length, none⟩ = some (.slice A4 o1.length c4) := fun w' h => ⟨h, h.cell p0, h.cell p1, h.cell p2, h.cell p3, h.cell o0⟩
       have hcc := fun W (hW : Ext wr W) => compareS _ Ax cx s A4 A2 c4 c2 o1 l[k] W (Rd.Sl.ext hAv hW) hs (hs4.ext hW) (hcr.ext hW) hob.key hrk.key
       go_wp2_with (fail)
       go_region_held3 (fun w' => Ext wr w' ∧ w'.cell? ⟨x, 0, none⟩ = some (.slice Ax s.types.length cx) ∧ w'.cell? ⟨x, 1, none⟩ = some (.int .i64 s.keys) ∧ w'.cell? ⟨x, 2, none⟩ = some (.int .i64 s.mode) ∧ w'.cell? ⟨x, 3, none⟩ = some (.int .i64 s.grain) ∧ w'.cell? ⟨g, m.length, none⟩ = some (.slice A4 o1.length c4)) (((try dsimp only); refine keep _ ?_; first | with_reducible assumption | exact XE)) (first | (go_at_call 52; refine (hcc _ XE).mono ?_; rintro e w5 ⟨rfl, hE5⟩; have hx5 := Ext.trans (a := wr) XE hE5))
       (try simp only [Exit.inBlock, Exit.then])
       clear hcc keep
       by_cases hz : cmpS s o1 l[k] = 0
       · have d5 : (cmpS s o1 l[k] == 0) = true := by simp [hz]
         rw [foldStep_snoc, if_pos hz] at HN HOK
         have HZ := As.mk hz
         clear hz
         have hBr5 := hx5.blk hBr
         (have r0 := bC (hBr5) 0; have r1 := bC (hBr5) 1; have r2 := bC (hBr5) 2; have r3 := bC (hBr5) 3)
         have o5 := hx5.cell o0
         have of5 := hx5.froz hgs of0
         have hA5 := Rd.Sl.ext hAv hx5
         have hs5 := hs4.ext hx5
         have hc5 := hcr.ext hx5
         have hO5 := hown.ext hx5
         have hg5 : g < w5.heap.size := (hO5.ge g rfl).2
         have hFv5 := FExt hFv hx5
         have hxg5 : ¬ x = g := by omega
         have hone := fun W (hW : Ext w5 W) => oneC _ Ax cx s hs A4 A2 c4 c2 o1 l[k] W (Rd.Sl.ext hA5 hW) (hs5.ext hW) (hc5.ext hW) hob hrk (FExt hFv5 hW)
         clear p0 p1 p2 p3 o0
         go_wp2_with (fail)
         go_region_law (first | (go_simp; go_at_call 216; refine (hone _ XE).mono ?_; rintro e w6 ⟨A6, c6, rfl, hs6, hE6⟩; have hx6 := Ext.trans (a := w5) XE hE6; have s0 := hx6.cell o5; have sf0 := hx6.froz hg5 of5; dsimp only))
         all_goals
           (try simp only [Exit.inBlock, Exit.then])
           go_wp2_with (fail)
           have hO6 := Rd.Own.set1 rfl (hO5.ext hx6) (i := m.length) (by simp) (u := .slice A6 (oneS s o1 l[k]).length c6) (y := oneS s o1 l[k]) (sl_Cn hs6 rfl)
           rw [show (m ++ [o1]).set m.length (oneS s o1 l[k]) = m ++ [oneS s o1 l[k]] from by simp] at hO6
           go_roundw
           case rel => exact ⟨k + 1, m ++ [oneS s o1 l[k]], by go_num, by omega, HN.out.symm, hO6, HOK.out, by simp; omega, ((hE.trans hx5).trans hx6).keepNew (kS1 w6 g m.length _) (fun j q => by rw [hsz1, q]; exact hg)⟩
           case measure => simp [intOf] <;> omega
       · have d5 : (cmpS s o1 l[k] == 0) = false := by simp [hz]
         rw [foldStep_snoc, if_neg hz] at HN HOK
         have HZ := As.mk hz
         clear hz
         go_wp2_with (first | (at_builtin; refine wpList_pushAt rfl (.tmp 45) (.tmp 47) 42 rfl rdRow elRow rfl (hown.ext (hx5.alloc _)) rfl (heap_alloc_new _ _) (y := l[k]) (sl_Cn (Rd.Sl.ext hcr (hx5.alloc _)) rfl) (by simp; omega) (by unfold maxLen; simp; omega) (by have := hE.size; have := hx5.size; simp; omega) ?_; intro v' w6 hown6 hg6 hat6))
         go_roundw
         case rel => exact ⟨k + 1, m ++ [o1] ++ [l[k]], by go_num, by omega, HN.out.symm, hown6, HOK.out, by simp; omega, ((hE.trans hx5).alloc _).grown hg6 (fun j hj => by cases hj; rw [hsz1]; exact hg)⟩
         case measure => simp [intOf] <;> omega
   · obtain rfl : k = l.length := by omega
     rw [List.take_length] at hout
     obtain ⟨A', c', rfl, hs'⟩ := hown.shut hF1
     go_wp2
     go_ret
     rw [← hout]
     exact ⟨A', c', rfl, hs', hE1.trans hE⟩
theorem foldL_len (s : Sch) (l : List Row) : (foldL (cmpS s) (oneS s) l).length ≤ l.length := by
 refine snoc_ind (P := fun l => (foldL (cmpS s) (oneS s) l).length ≤ l.length) (Nat.le_refl _) (fun l x ih => ?_) l
 rw [foldL_snoc]
 have := foldStep_len (cmpS s) (oneS s) (foldL (cmpS s) (oneS s) l) x
 simp; omega
theorem foldL_rows {s : Sch} (l : List Row) (h : ∀ r ∈ l, RowOk s r) : ∀ r ∈ foldL (cmpS s) (oneS s) l, RowOk s r := by
 revert h
 refine snoc_ind (P := fun l => (∀ r ∈ l, RowOk s r) → ∀ r ∈ foldL (cmpS s) (oneS s) l, RowOk s r) (fun _ r hr => by cases hr) (fun l x ih h => ?_) l
 rw [foldL_snoc]
 exact foldStep_ok (ih (fun r hr => h r (List.mem_append_left _ hr))) (h x (by simp))
theorem foldedC (F : Nat → Prop) (Ax : Option Addr) (cx : Nat) (s : Sch) (hs : s.Ok) (hm : s.mode ≠ 1) (A : Option Addr) (c : Nat) (ls : List (List Row)) (w : World) (hA : SchAt F w Ax cx s) (hl : rdRows.Sl F w A c ls) (hn : ls.length ≤ 1000) (hN : ls.flatten.length ≤ 100000) (ho : ∀ x ∈ ls, ∀ r ∈ x, RowOk s r)
   (hmr : ∀ r ∈ mergeR (cmpS s) ls, RowOk s r) (hml : (mergeR (cmpS s) ls).length ≤ 100000) (hF : ∀ k, F k → k < w.heap.size) :
   Calls Tryz.prog 80 #[schV Ax cx s, .slice A ls.length c] w fun e w' => ∃ A' c', e = .returned (.slice A' (foldL (cmpS s) (oneS s) (mergeR (cmpS s) ls)).length c') ∧ rdRow.Sl F w' A' c' (foldL (cmpS s) (oneS s) (mergeR (cmpS s) ls)) ∧ Ext w w' := by
 obtain ⟨x, hx⟩ : ∃ x, w.heap.size = x := ⟨_, rfl⟩
 have B1 := bN w (.cells #[.slice Ax s.types.length cx, .int .i64 s.keys, .int .i64 s.mode, .int .i64 s.grain] 27)
 have hE1 := (Ext.refl w).alloc (.cells #[.slice Ax s.types.length cx, .int .i64 s.keys, .int .i64 s.mode, .int .i64 s.grain] 27)
 go_enter Tryz.func80, Tryz.ntmps80
 go_wp2_with (fail)
 generalize (w.alloc (.cells #[.slice Ax s.types.length cx, .int .i64 s.keys, .int .i64 s.mode, .int .i64 s.grain] 27)) = w1 at *
 rw [hx] at B1
 have hF1 := FExt hF hE1
 have hA1 : SchAt F w1 Ax cx s := Rd.Sl.ext hA hE1
 have hl1 := hl.ext hE1
 (have p0 := bC (B1) 0; have p1 := bC (B1) 1; have p2 := bC (B1) 2; have p3 := bC (B1) 3)
 have keep : ∀ w', Ext w1 w' → Ext w1 w' ∧ w'.cell? ⟨x, 0, none⟩ = some (.slice Ax s.types.length cx) ∧ w'.cell? ⟨x, 1, none⟩ = some (.int .i64 s.keys) ∧ w'.cell? ⟨x, 2, none⟩ = some (.int .i64 s.mode) ∧ w'.cell? ⟨x, 3, none⟩ = some (.int .i64 s.grain) := fun w' h => ⟨h, h.cell p0, h.cell p1, h.cell p2, h.cell p3⟩
 have hr1 := fun W (hW : Ext w1 W) => rowsC F Ax cx s hs A c ls W (Rd.Sl.ext hA1 hW) (hl1.ext hW) hn hN ho (FExt hF1 hW)
 have hr2 := fun W (hW : Ext w1 W) A2 c2 (hs2 : rdRow.Sl F W A2 c2 (mergeR (cmpS s) ls)) => foldFC F Ax cx s hs hm A2 c2 _ W (Rd.Sl.ext hA1 hW) hs2 hml hmr (FExt hF1 hW)
 go_region_held3 (fun w' => Ext w1 w' ∧ w'.cell? ⟨x, 0, none⟩ = some (.slice Ax s.types.length cx) ∧ w'.cell? ⟨x, 1, none⟩ = some (.int .i64 s.keys) ∧ w'.cell? ⟨x, 2, none⟩ = some (.int .i64 s.mode) ∧ w'.cell? ⟨x, 3, none⟩ = some (.int .i64 s.grain)) (((try dsimp only); refine keep _ ?_; first | with_reducible assumption | exact XE)) (first | (go_at_call 115; refine (hr1 _ XE).mono ?_; rintro e w2 ⟨A2, c2, rfl, hs2, hE2⟩; have hx2 := Ext.trans (a := w1) XE hE2) | (go_at_call 116; refine (hr2 _ XE A2 c2 (hs2.ext XE)).mono ?_; rintro e w3 ⟨A3, c3, rfl, hs3, hE3⟩; have hx3 := Ext.trans (a := w1) XE hE3))
 (try simp only [Exit.inBlock, Exit.then])
 go_wp2
 go_ret
 exact ⟨A3, c3, rfl, hs3, hE1.trans hx3⟩
end K68
end Go.Proofs.YtbjeejimedhniaaGreatDoor
namespace Go.Proofs
open Go.Shelf
def Tryz.lays110_ren : Go.Shelf.Ren := ⟨fun | 110 => 67 | 109 => 145 | n => n, fun | 31 => 126 | 9 => 9 | 4 => 4 | 3 => 3 | 0 => 0 | n => n, fun | n => n⟩
theorem Tryz.lays110 : Go.Proofs.Lays.n110 Tryz.prog Tryz.lays110_ren := {
  mixed := by kernel_rfl
  f109 := Tryz.func145.trans (congrArg some (by kernel_rfl))
  f110 := Tryz.func67.trans (congrArg some (by kernel_rfl))
  t0 := Tryz.underlying0
  a0 := Tryz.isAgg0
  z0 := Tryz.sizeOf0
  v0 := Tryz.zeroValue0
  t3 := Tryz.underlying3
  a3 := Tryz.isAgg3
  z3 := Tryz.sizeOf3
  v3 := Tryz.zeroValue3
  t4 := Tryz.underlying4
  a4 := Tryz.isAgg4
  z4 := Tryz.sizeOf4
  v4 := Tryz.zeroValue4
  t9 := Tryz.underlying9
  a9 := Tryz.isAgg9
  z9 := Tryz.sizeOf9
  v9 := Tryz.zeroValue9
  t31 := Tryz.underlying126
  a31 := Tryz.isAgg126
  z31 := Tryz.sizeOf126
  v31 := Tryz.zeroValue126 }
open Go.Lib in
theorem Tryz.slices_Contains_string (b off n c : Nat) (zs : List ByteArray) (x : ByteArray) (w : World) (hz : n ≤ zs.length) (hbig : n ≤ 9223372036854775807) (hc : ∀ j, j < zs.length → w.cell? ⟨b, off + j, none⟩ = some (.string (zs.getD j ByteArray.empty))) :
    Calls Tryz.prog 67 #[.slice (some ⟨b, off, none⟩) n c, .string x] w fun e w' => e = .returned (.bool (Lib.containsS (zs.take n) x)) ∧ w' = w := Any.slices_Contains_string Tryz.lays110 b off n c zs x w hz hbig hc
open Go.Lib in
theorem Tryz.slices_Contains_string_empty (a : Option Addr) (c : Nat) (x : ByteArray) (w : World) :
    Calls Tryz.prog 67 #[.slice a 0 c, .string x] w fun e w' => e = .returned (.bool false) ∧ w' = w := Any.slices_Contains_string_empty Tryz.lays110 a c x w
end Go.Proofs
namespace Go.Proofs
open Go.Shelf
def Tryz.lays171_ren : Go.Shelf.Ren := ⟨fun | 171 => 126 | 243 => 227 | 246 => 305 | 283 => 342 | 284 => 343 | 285 => 344 | 286 => 345 | 129 => 318 | 317 => 368 | 318 => 369 | 319 => 370 | 320 => 371 | 337 => 399 | 338 => 400 | n => n, fun | 3 => 3 | 9 => 9 | 2 => 2 | 4 => 4 | 171 => 402 | 0 => 0 | 53 => 115 | 37 => 120 | 5 => 5 | 173 => 404 | 212 => 427 | 51 => 23 | 20 => 20 | 213 => 428 | 46 => 347 | 232 => 470 | 233 => 471 | n => n, fun | 17 => 3 | 18 => 6 | 19 => 7 | n => n⟩
theorem Tryz.lays171 : Go.Proofs.Lays.n171 Tryz.prog Tryz.lays171_ren := {
  mixed := by kernel_rfl
  f129 := Tryz.func318.trans (congrArg some (by kernel_rfl))
  f171 := Tryz.func126.trans (congrArg some (by kernel_rfl))
  f243 := Tryz.func227.trans (congrArg some (by kernel_rfl))
  f246 := Tryz.func305.trans (congrArg some (by kernel_rfl))
  f283 := Tryz.func342.trans (congrArg some (by kernel_rfl))
  f284 := Tryz.func343.trans (congrArg some (by kernel_rfl))
  f285 := Tryz.func344.trans (congrArg some (by kernel_rfl))
  f286 := Tryz.func345.trans (congrArg some (by kernel_rfl))
  f317 := Tryz.func368.trans (congrArg some (by kernel_rfl))
  f318 := Tryz.func369.trans (congrArg some (by kernel_rfl))
  f319 := Tryz.func370.trans (congrArg some (by kernel_rfl))
  f320 := Tryz.func371.trans (congrArg some (by kernel_rfl))
  f337 := Tryz.func399.trans (congrArg some (by kernel_rfl))
  f338 := Tryz.func400.trans (congrArg some (by kernel_rfl))
  t0 := Tryz.underlying0
  a0 := Tryz.isAgg0
  z0 := Tryz.sizeOf0
  v0 := Tryz.zeroValue0
  t2 := Tryz.underlying2
  a2 := Tryz.isAgg2
  z2 := Tryz.sizeOf2
  v2 := Tryz.zeroValue2
  t3 := Tryz.underlying3
  a3 := Tryz.isAgg3
  z3 := Tryz.sizeOf3
  v3 := Tryz.zeroValue3
  t4 := Tryz.underlying4
  a4 := Tryz.isAgg4
  z4 := Tryz.sizeOf4
  v4 := Tryz.zeroValue4
  t5 := Tryz.underlying5
  a5 := Tryz.isAgg5
  z5 := Tryz.sizeOf5
  v5 := Tryz.zeroValue5
  t9 := Tryz.underlying9
  a9 := Tryz.isAgg9
  z9 := Tryz.sizeOf9
  v9 := Tryz.zeroValue9
  t20 := Tryz.underlying20
  a20 := Tryz.isAgg20
  z20 := Tryz.sizeOf20
  v20 := Tryz.zeroValue20
  t37 := Tryz.underlying120
  a37 := Tryz.isAgg120
  z37 := Tryz.sizeOf120
  v37 := Tryz.zeroValue120
  t46 := Tryz.underlying347
  a46 := Tryz.isAgg347
  z46 := Tryz.sizeOf347
  v46 := Tryz.zeroValue347
  t51 := Tryz.underlying23
  a51 := Tryz.isAgg23
  z51 := Tryz.sizeOf23
  v51 := Tryz.zeroValue23
  t53 := Tryz.underlying115
  a53 := Tryz.isAgg115
  z53 := Tryz.sizeOf115
  v53 := Tryz.zeroValue115
  t171 := Tryz.underlying402
  a171 := Tryz.isAgg402
  z171 := Tryz.sizeOf402
  v171 := Tryz.zeroValue402
  t173 := Tryz.underlying404
  a173 := Tryz.isAgg404
  z173 := Tryz.sizeOf404
  v173 := Tryz.zeroValue404
  t212 := Tryz.underlying427
  a212 := Tryz.isAgg427
  z212 := Tryz.sizeOf427
  v212 := Tryz.zeroValue427
  t213 := Tryz.underlying428
  a213 := Tryz.isAgg428
  z213 := Tryz.sizeOf428
  t232 := Tryz.underlying470
  a232 := Tryz.isAgg470
  z232 := Tryz.sizeOf470
  v232 := Tryz.zeroValue470
  t233 := Tryz.underlying471
  a233 := Tryz.isAgg471
  z233 := Tryz.sizeOf471
  v233 := Tryz.zeroValue471
  g17 := by kernel_rfl
  g18 := by kernel_rfl
  g19 := by kernel_rfl }
open Go.RowKit Go.Sort Go.Lib in
theorem Tryz.strconv_Itoa_small (i : Nat) (hi : i < 100) (w : World) :
    Calls Tryz.prog 126 #[.int .i64 i] w fun e w' => e = .returned (.string ⟨(Lib.decDigits i).toArray⟩) ∧ w' = w := Any.strconv_Itoa_small Tryz.lays171 i hi w
end Go.Proofs
namespace Go.Proofs.YtbjeejimedhniaaGreatDoor
namespace K34
open Go Go.RowKit Go.Maps
open KB P5 K33
def kl (s : ByteArray) : Lit := .string (keyBytes [.string s.data.toList])
theorem formedW (s : ByteArray) : Value.formed Tryz.prog 211 (.agg #[.string s]) = true := by
 unfold Value.formed
 rw [Tryz.underlying211]
 simp only [cellsW]
 rfl
theorem lits1 (n : Nat) (c : Value) : Tryz.prog.keyLits (n + 1 + 1) 211 [c] = (match c with | .string s => if s.size ≤ maxLen then some [Lit.string s.data.toList] else none | _ => none) := by
 cases c
 case string s =>
   by_cases h2 : s.size ≤ maxLen
   · simp [Program.keyLits, Tryz.underlying211, Tryz.underlying9, cellsW, cellsS, h2]
   · simp [Program.keyLits, Tryz.underlying211, Tryz.underlying9, cellsW, cellsS, h2]
 all_goals simp [Program.keyLits, Tryz.underlying211, Tryz.underlying9, cellsW, cellsS]
theorem keyW (s : ByteArray) (h : s.size ≤ maxLen) : keyOf Tryz.prog 211 (.agg #[.string s]) = some (kl s) := by
 unfold keyOf
 rw [Tryz.underlying211]
 simp only [kt, formedW, Bool.true_and, if_true]
 obtain ⟨n, hn⟩ := tysz
 rw [hn]
 have e : Tryz.prog.keyLits (n + 1 + 1) 211 (Value.agg #[Value.string s]).cells.toList = some [Lit.string s.data.toList] := (lits1 n (.string s)).trans (by simp [h])
 rw [e]
 rfl
theorem kl_inj {s t : ByteArray} (hs : s.size ≤ maxLen) (ht : t.size ≤ maxLen) (h : kl s = kl t) : s = t := by
 have h1 := law.inj (keyW s hs) (by rw [keyW t ht, h])
 have h2 := congrArg Value.cells h1
 simpa [Value.cells] using h2
theorem key_inv {key : Value} {l : Lit} (h : keyOf Tryz.prog 211 key = some l) : ∃ s : ByteArray, s.size ≤ maxLen ∧ key = .agg #[.string s] ∧ l = kl s := by
 unfold keyOf at h
 rw [Tryz.underlying211] at h
 simp only [kt, Bool.true_and] at h
 split at h
 · rename_i hf
   obtain ⟨n, hn⟩ := tysz
   rw [hn] at h
   cases key <;> simp only [Value.formed, Tryz.underlying211, cellsW] at hf <;> try (cases hf; done)
   rename_i cs
   obtain ⟨q⟩ := cs
   obtain ⟨c, rfl⟩ : ∃ c, q = [c] := List.length_eq_one_iff.1 (by simpa using hf)
   have e : Tryz.prog.keyLits (n + 1 + 1) 211 (Value.agg ⟨[c]⟩).cells.toList = _ := lits1 n c
   rw [e] at h
   cases c <;> simp only [Option.map_none, reduceCtorEq] at h
   rename_i s
   by_cases h2 : s.size ≤ maxLen
   · rw [if_pos h2] at h
     simp only [Option.map_some, Option.some.injEq] at h
     exact ⟨s, h2, rfl, h.symm⟩
   · rw [if_neg h2] at h; cases h
 · cases h
/-! ### the map -/
structure MapIs (M : List (ByteArray × Nat)) (D : DataW Unit) : Prop where
 tidy : Maps.Tidy D
 size : Maps.size D = M.length
 look : ∀ s : ByteArray, s.size ≤ maxLen → Maps.has D (kl s) = (getA s M).isSome ∧ ∀ i, getA s M = some i → D.atKey (kl s) (.lit (.int .i64 0)) = .lit (.int .i64 (i : Int))
 keys : ∀ k, Maps.has D k = true → ∃ s : ByteArray, s.size ≤ maxLen ∧ k = kl s
theorem mapIs_nil : MapIs [] (.map []) := ⟨Maps.tidy_empty, rfl, fun s _ => ⟨by simp [Maps.has, getA], fun i h => by cases h⟩, fun k h => by simp [Maps.has] at h⟩
theorem litKey (s : ByteArray) : WideAt.IsKeyLit (kl s) := trivial
theorem mapIs_put {M : List (ByteArray × Nat)} {D : DataW Unit} (h : MapIs M D) (hM : SrtA M) (n : ByteArray) (hn : n.size ≤ maxLen) (i : Nat) : MapIs (putA n i M) (D.put (kl n) (.lit (.int .i64 (i : Int)))) := by
 refine ⟨h.tidy.put (litKey n) _, ?_, fun s hs => ?_, fun k hk => ?_⟩
 · rw [size_put h.tidy, put_length n i M hM, h.size, (h.look n hn).1]
 · by_cases e : s = n
   · subst e
     rw [getA_put, if_pos rfl]
     exact ⟨by rw [has_put_same h.tidy.isMap (litKey s)]; rfl, fun j hj => by cases hj; rw [atKey_put_same h.tidy.isMap (litKey s)]⟩
   · have hne : kl s ≠ kl n := fun h0 => e (kl_inj hs hn h0)
     rw [getA_put, if_neg e, has_put_other hne, atKey_put_other hne]
     exact h.look s hs
 · by_cases e : k = kl n
   · exact ⟨n, hn, e⟩
   · rw [has_put_other e] at hk; exact h.keys k hk
theorem mapIs_del {M : List (ByteArray × Nat)} {D : DataW Unit} (h : MapIs M D) (hM : SrtA M) (n : ByteArray) (hn : n.size ≤ maxLen) : MapIs (delA n M) (D.del (kl n)) := by
 refine ⟨h.tidy.del _, ?_, fun s hs => ?_, fun k hk => ?_⟩
 · have h1 := size_del (k := kl n) h.tidy
   have h2 := del_length' n M hM
   rw [(h.look n hn).1, h.size] at h1
   omega
 · by_cases e : s = n
   · subst e
     rw [getA_del, if_pos rfl, has_del_same]
     exact ⟨rfl, fun j hj => by cases hj⟩
   · have hne : kl s ≠ kl n := fun h0 => e (kl_inj hs hn h0)
     rw [getA_del, if_neg e, has_del_other hne, atKey_del_other hne]
     exact h.look s hs
 · by_cases e : k = kl n
   · exact ⟨n, hn, e⟩
   · rw [has_del_other e] at hk; exact h.keys k hk
theorem ownsMap_size {w : World} {P : Program} {k : TypeId} {R : Value → Option (DataW Unit × List MemPlace)} {b n : Nat} {D : DataW Unit} (h : w.ownsMap P k R b n D) : w.ownsMap P k R b (Maps.size D) D := by
 obtain ⟨es, clock, hb, F, hs, rfl⟩ := h
 exact ⟨es, clock, hb, F, by rw [Maps.size_eq, length_sorted]; simp, rfl⟩
structure NamesAt (w : World) (b : Nat) (M : List (ByteArray × Nat)) : Prop where
 srt : SrtA M
 small : ∀ p ∈ M, p.1.size ≤ 1000
 len : M.length ≤ 1000000
 at_ : ∃ D : DataW Unit, MapIs M D ∧ w.ownsMap Tryz.prog 211 (plainElem Tryz.prog 3) b M.length D
theorem NamesAt.made (w : World) : NamesAt (w.alloc (.map #[] 0)) w.heap.size [] := ⟨.nil, (fun p h => by cases h), Nat.zero_le _, _, mapIs_nil, World.ownsMap_made _ _ _ _⟩
theorem NamesAt.lt {w : World} {b : Nat} {M : List (ByteArray × Nat)} (h : NamesAt w b M) : b < w.heap.size := by obtain ⟨D, _, h⟩ := h.at_; exact h.lt
theorem NamesAt.keep {F : Nat → Prop} {w w' : World} {b : Nat} {M : List (ByteArray × Nat)} (h : NamesAt w b M) (k : Keep F w w') (hb : ¬ F b) : NamesAt w' b M := by
 obtain ⟨D, h1, es, clock, hm, rest⟩ := h.at_
 exact ⟨h.srt, h.small, h.len, D, h1, es, clock, k.blk hb hm, rest⟩
theorem NamesAt.ext {w w' : World} {b : Nat} {M : List (ByteArray × Nat)} (h : NamesAt w b M) (k : Ext w w') : NamesAt w' b M := h.keep (k.keep (fun _ => False)) (fun q => q)
theorem NamesAt.notCells {w : World} {b g : Nat} {M : List (ByteArray × Nat)} {cs : Array Value} {T : TypeId} {fr : Nat × Nat} (h : NamesAt w b M) (hc : w.heap[g]? = some (.cells cs T fr)) : b ≠ g := by
 obtain ⟨D, h1, es, clock, hm, rest⟩ := h.at_
 intro e; rw [e, hc] at hm; cases hm
theorem zeroInt (w : World) : (zeroValue 3).run Tryz.prog w = .ok (.int .i64 0) w := by kernel_rfl
section
variable {ops : Array Oper} {rest : List Oper} {o : Oper} {a : Act} {Q : Exit → Act → World → Prop} {W : World}
theorem lookOk (hgd : o.guard = none) (m x : Operand) (hop : o.op = Op.lookup 101 m x true) (b : Nat) (M : List (ByteArray × Nat)) (hm : a.eval m = .map (some b)) (HO : NamesAt W b M)
   (s : ByteArray) (hs : s.size ≤ maxLen) (hx : a.eval x = .agg #[.string s]) (h : ∀ c : Int, (∀ i, getA s M = some i → c = i) → wpList Tryz.prog ops Q rest (a.put o.dst (.tuple #[.int .i64 c, .bool (getA s M).isSome])) W) : wpList Tryz.prog ops Q (o :: rest) a W := by
 obtain ⟨D, h1, h2⟩ := HO.at_
 refine wpList_lookup_own_ok_int W hgd m x 101 hop 211 3 .i64 law Tryz.underlying101 Tryz.underlying3 (zeroInt W) b M.length D hm h2 _ (kl s) hx (keyW s hs) ?_
 intro c hc _
 rw [(h1.look s hs).1]
 refine h c (fun i hi => ?_)
 rw [(h1.look s hs).2 i hi] at hc
 injection hc with hc
 injection hc with _ hc
 exact hc.symm
theorem lookIn (hgd : o.guard = none) (m x : Operand) (hop : o.op = Op.lookup 101 m x false) (b : Nat) (M : List (ByteArray × Nat)) (hm : a.eval m = .map (some b)) (HO : NamesAt W b M)
   (s : ByteArray) (hs : s.size ≤ maxLen) (i : Nat) (hin : getA s M = some i) (hx : a.eval x = .agg #[.string s]) (h : wpList Tryz.prog ops Q rest (a.put o.dst (.int .i64 (i : Int))) W) : wpList Tryz.prog ops Q (o :: rest) a W := by
 obtain ⟨D, h1, h2⟩ := HO.at_
 refine wpList_lookup_own_int W hgd m x 101 hop 211 3 .i64 law Tryz.underlying101 Tryz.underlying3 (zeroInt W) b M.length D hm h2 _ (kl s) hx (keyW s hs) ?_
 intro c hc _
 rw [(h1.look s hs).2 i hin] at hc
 injection hc with hc
 injection hc with _ hc
 subst hc
 exact h
theorem store_ (hgd : o.guard = none) (m x v : Operand) (hop : o.op = Op.mapUpdate 101 m x v) (b : Nat) (M : List (ByteArray × Nat)) (hm : a.eval m = .map (some b)) (HO : NamesAt W b M)
   (s : ByteArray) (hs : s.size ≤ 1000) (i : Nat) (hi : i ≤ 100000000) (hx : a.eval x = .agg #[.string s]) (hv : a.eval v = .int .i64 (i : Int)) (hl : M.length < 1000000)
   (h : ∀ w', NamesAt w' b (putA s i M) → W.grownBy w' (some b) → wpList Tryz.prog ops Q rest (a.put o.dst undef) w') : wpList Tryz.prog ops Q (o :: rest) a W := by
 obtain ⟨D, h1, h2⟩ := HO.at_
 have hsm : s.size ≤ maxLen := by unfold maxLen; omega
 refine wpList_mapUpdate_own W hgd m x v 101 hop 211 3 law Tryz.underlying101 (plainElem Tryz.prog 3) b M.length D hm h2 (by unfold maxLen; omega) _ _ (kl s) hx hv (keyW s hsm)
   (.lit (.int .i64 (i : Int))) [] (plainElem_int Tryz.underlying3 (WalkArith.wf_i64 (by omega))) ?_
 intro w' h3 h4
 have h5 := mapIs_put h1 HO.srt s hsm i
 have h6 := put_length s i M HO.srt
 refine h w' ⟨srt_put s i M HO.srt, fun p hp => ?_, by rw [h6]; split <;> omega, _, h5, by rw [← h5.size]; exact ownsMap_size h3⟩ h4
 rcases mem_putA hp with e | e
 · rw [e]; exact hs
 · exact HO.small p e
theorem delete_ (hgd : o.guard = none) (m x : Operand) (hop : o.op = Op.call { callee := Callee.builtin Builtin.delete, args := #[m, x], argTypes := #[101, 211] }) (b : Nat) (M : List (ByteArray × Nat)) (hm : a.eval m = .map (some b)) (HO : NamesAt W b M)
   (s : ByteArray) (hs : s.size ≤ maxLen) (hx : a.eval x = .agg #[.string s])
   (h : ∀ w', NamesAt w' b (delA s M) → W.grownBy w' (some b) → wpList Tryz.prog ops Q rest (a.put o.dst (.tuple #[])) w') : wpList Tryz.prog ops Q (o :: rest) a W := by
 obtain ⟨D, h1, h2⟩ := HO.at_
 refine wpList_delete_own W hgd m x 101 211 hop 3 law Tryz.underlying101 (plainElem Tryz.prog 3) b M.length D hm h2 _ (kl s) hx (keyW s hs) ?_
 intro w' h3 h4
 have h5 := mapIs_del h1 HO.srt s hs
 refine h w' ⟨srt_del s M HO.srt, fun p hp => HO.small p (List.mem_filter.1 hp).1, Nat.le_trans (del_length s M) HO.len, _, h5, by rw [← h5.size]; exact ownsMap_size h3⟩ h4.grown
theorem len_ (hgd : o.guard = none) (m : Operand) (hop : o.op = Op.call { callee := Callee.builtin Builtin.len, args := #[m], argTypes := #[101] }) (b : Nat) (M : List (ByteArray × Nat)) (hm : a.eval m = .map (some b)) (HO : NamesAt W b M)
   (h : wpList Tryz.prog ops Q rest (a.put o.dst (.int .i64 (M.length : Int))) W) : wpList Tryz.prog ops Q (o :: rest) a W := by
 obtain ⟨D, h1, h2⟩ := HO.at_
 refine wpList_len_own W hgd m 101 hop 211 3 Tryz.underlying101 (plainElem Tryz.prog 3) b M.length D hm h2 ?_
 rw [h1.size]
 exact h
end
def lookVal (s : ByteArray) (M : List (ByteArray × Nat)) : Int := ((getA s M).getD 0 : Nat)
theorem NamesAt.lookRun {w : World} {b : Nat} {M : List (ByteArray × Nat)} (h : NamesAt w b M) (s : ByteArray) (hs : s.size ≤ maxLen) :
   (Instr.lookup 101 (.map (some b)) (.agg #[.string s]) true).run Tryz.prog w = .ok (.tuple #[.int .i64 (lookVal s M), .bool (getA s M).isSome]) w := by
 obtain ⟨D, h1, h2⟩ := h.at_
 obtain ⟨v, ps, hr, hv⟩ := h2.look_ok law Tryz.underlying101 (zeroInt w) (plainElem_int Tryz.underlying3 (a := 0) (by decide)) (keyW s hs)
 rw [(h1.look s hs).1] at hr
 rw [hr]
 obtain ⟨c, rfl, hc, _⟩ := plainElem_int_inv Tryz.underlying3 hv
 have hcc : c = lookVal s M := by
   unfold lookVal
   cases hg : getA s M with
   | some i =>
     have := (h1.look s hs).2 i hg
     rw [this] at hc
     have h3 := (Prod.mk.inj hc).1
     injection h3 with h3
     injection h3 with _ h3
     exact h3.symm
   | none =>
     have h0 : Maps.has D (kl s) = false := by rw [(h1.look s hs).1, hg]; rfl
     rw [atKey_of_not_has h0] at hc
     have h3 := (Prod.mk.inj hc).1
     injection h3 with h3
     injection h3 with _ h3
     exact h3.symm
 rw [hcc]
theorem NamesAt.lenRun {w : World} {b : Nat} {M : List (ByteArray × Nat)} (h : NamesAt w b M) (ty : TypeId) : (Builtin.len_ #[101] ty #[.map (some b)]).run Tryz.prog w = .ok (.int .i64 (M.length : Int)) w := by
 obtain ⟨D, h1, h2⟩ := h.at_
 rw [h2.len Tryz.underlying101 ty, h1.size]
end K34
namespace K29
open Go Go.RowKit
open KB KB2 KB3 K6 K7 K8 K9
theorem Sl_clip {α : Type} {R : Rd α} {F : Nat → Prop} {w : World} {A : Option Addr} {c : Nat} {l : List α} (h : R.Sl F w A c l) : R.Sl F w A l.length l :=
 ⟨Nat.le_refl _, Nat.le_trans h.le h.max, fun hA => by have := h.nil_ hA; have := h.le; omega, h.at_⟩
theorem clipI {α : Type} (R : Rd α) (F : Nat → Prop) (A : Option Addr) (c : Nat) (l : List α) (w : World) (h : R.Sl F w A c l) :
   Calls Tryz.prog 155 #[.slice A l.length c] w fun e w' => e = .returned (.slice A l.length l.length) ∧ w = w' := by
 have h1 := h.le
 have i0 : (0 : Int) ≤ (l.length : Int) := by omega
 have i1 : (l.length : Int) ≤ (c : Int) := by omega
 have i2 := h.max
 unfold maxLen at i2
 go_enter Tryz.func155, Tryz.ntmps155
 go_wp2
 go_ret
 exact ⟨rfl, rfl⟩
theorem clipF {α : Type} (R : Rd α) (F : Nat → Prop) (A : Option Addr) (c : Nat) (l : List α) (w : World) (h : R.Sl F w A c l) :
   Calls Tryz.prog 139 #[.slice A l.length c] w fun e w' => e = .returned (.slice A l.length l.length) ∧ w = w' := by
 have h1 := h.le
 have i0 : (0 : Int) ≤ (l.length : Int) := by omega
 have i1 : (l.length : Int) ≤ (c : Int) := by omega
 have i2 := h.max
 unfold maxLen at i2
 go_enter Tryz.func139, Tryz.ntmps139
 go_wp2
 go_ret
 exact ⟨rfl, rfl⟩
theorem clipC {α : Type} (R : Rd α) (F : Nat → Prop) (A : Option Addr) (c : Nat) (l : List α) (w : World) (h : R.Sl F w A c l) :
   Calls Tryz.prog 244 #[.slice A l.length c] w fun e w' => e = .returned (.slice A l.length l.length) ∧ w = w' := by
 have h1 := h.le
 have i0 : (0 : Int) ≤ (l.length : Int) := by omega
 have i1 : (l.length : Int) ≤ (c : Int) := by omega
 have i2 := h.max
 unfold maxLen at i2
 go_enter Tryz.func244, Tryz.ntmps244
 go_wp2
 go_ret
 exact ⟨rfl, rfl⟩
theorem clipS {α : Type} (R : Rd α) (F : Nat → Prop) (A : Option Addr) (c : Nat) (l : List α) (w : World) (h : R.Sl F w A c l) :
   Calls Tryz.prog 191 #[.slice A l.length c] w fun e w' => e = .returned (.slice A l.length l.length) ∧ w = w' := by
 have h1 := h.le
 have i0 : (0 : Int) ≤ (l.length : Int) := by omega
 have i1 : (l.length : Int) ≤ (c : Int) := by omega
 have i2 := h.max
 unfold maxLen at i2
 go_enter Tryz.func191, Tryz.ntmps191
 go_wp2
 go_ret
 exact ⟨rfl, rfl⟩
end K29
namespace K22
open Go Go.RowKit
open KB KB2 KB3 K1 K3 K6 K7 K8 K14 Num
theorem oddMay (n : Int) (h : 0 ≤ n ∧ n ≤ 999999) (w : World) : Calls Tryz.prog 261 #[.int .i64 n] w fun e w' => e = .returned (.bool false) ∧ Ext w w' := by
 have h1 : decide (n < 0) = false := decide_eq_false (by omega)
 have h2 : decide ((999999 : Int) < n) = false := decide_eq_false (by omega)
 go_enter Tryz.func261, Tryz.ntmps261
 go_wp2
 go_ret
 exact ⟨rfl, Ext.refl _⟩
structure Wr (F : Nat → Prop) (w0 w : World) (g : Nat) (L : List Int) : Prop where
 ext : Ext w0 w
 ge : w0.heap.size ≤ g
 at_ : ∃ v, w.heap[g]? = some (.cells #[v] 247 (0, 0)) ∧ rdU8.Own F w0.heap.size 5 w v L ∧ v.ownBlock ≠ some g
def cur (w : World) (g : Nat) : Value := (w.cell? ⟨g, 0, none⟩).getD undef
theorem cur_eq {w : World} {g : Nat} {v : Value} (h : w.cell? ⟨g, 0, none⟩ = some v) : cur w g = v := by rw [cur, h]; rfl
theorem cur_some {w : World} {g : Nat} {v : Value} (h : w.cell? ⟨g, 0, none⟩ = some v) : w.cell? ⟨g, 0, none⟩ = some (cur w g) := by rw [cur_eq h]; exact h
def Stay (w w' : World) (g : Nat) : Prop := ∀ (G : Nat → Prop) {α : Type} (R : Rd α), 0 < R.sz → ∀ A c l, R.Sl (fun k => G k ∨ k = g ∨ (cur w g).ownBlock = some k) w A c l → R.Sl (fun k => G k ∨ k = g ∨ (cur w' g).ownBlock = some k) w' A c l
theorem stay_of {w wa w2 : World} {g : Nat} {v v' : Value} (hgl : g < w.heap.size) (hE : Ext w wa) (hg : wa.grownBy w2 v.ownBlock) (hat : At' wa v v') (c0 : w.cell? ⟨g, 0, none⟩ = some v) (c1 : (w2.setCell ⟨g, 0, none⟩ v').cell? ⟨g, 0, none⟩ = some v') : Stay w (w2.setCell ⟨g, 0, none⟩ v') g := by
 intro G α R hsz A c l h
 rw [cur_eq c0] at h
 rw [cur_eq c1]
 have h1 := h.ext hE
 have h2 := h1.narrow hsz (G := fun k => G k ∨ k = g ∨ v.ownBlock = some k ∨ k = wa.heap.size) (fun k hk hG => by
   rcases hG with q | q | q | q
   · exact .inl q
   · exact .inr (.inl q)
   · exact .inr (.inr q)
   · omega)
 have h3 := h2.keep (Keep.of_grown hg (fun k hk _ => .inr (.inr (.inl hk))))
 have h4 := h3.keep (Keep.setCell w2 ⟨g, 0, none⟩ v' (.inr (.inl rfl)))
 refine h4.narrow hsz (fun k hk hG => ?_)
 rcases hG with q | q | q
 · exact .inl q
 · exact .inr (.inl q)
 · rcases hat with e | e
   · exact .inr (.inr (.inl (by rw [← e]; exact q)))
   · rw [e] at q; cases q; exact .inr (.inr (.inr rfl))
theorem wNumberS (F : Nat → Prop) (w0 : World) (g : Nat) (L : List Int) (n : Nat) (hn : n < 1000000000) (w : World) (h : Wr F w0 w g L) (hl : L.length ≤ 1000000) (hF : ∀ k, F k → k < w0.heap.size) :
   Calls Tryz.prog 173 #[.pointer (some ⟨g, 0, none⟩), .int .i64 n] w fun e w' => e = .returned (.tuple #[]) ∧ Wr F w0 w' g (L ++ pv n) ∧ Stay w w' g := by
 obtain ⟨hE, hge, v, hb, hown, hne⟩ := h
 have c0 := bC hb 0
 go_enter Tryz.func173, Tryz.ntmps173
 go_wp2_with (fail)
 have hgl := blk_lt hb
 have hwn : IntKind.u64.wrap (n : Int) = n := by rw [IntKind.wrap_u64]; omega
 have hp1 := pv_pos n
 have hp10 := pv_le10 n (by omega)
 have f0 := bF hb 0
 replace c0 : w.cell? ⟨g, 0, none⟩ = some v := c0
 have HFv : ∀ k, Fv F v k → k < w.heap.size := FvF hown (fun k hk => Nat.lt_of_lt_of_le (hF k hk) hE.size)
 obtain ⟨Av, cv, rfl, _⟩ := hown.shut hF
 go_region_law (first | (go_simp; go_at_call 228; refine (putVar (Fv F (.slice Av L.length cv)) n (by omega) _ (FExt HFv XE)).mono ?_; rintro e w1 ⟨A1, c1, rfl, hs1, hE1⟩; have hx1 : Ext w w1 := Ext.trans XE hE1; have d1 : w1.cell? ⟨g, 0, none⟩ = some (.slice Av L.length cv) := bC (hx1.blk hb) 0; have d2 := bF (hx1.blk hb) 0; dsimp only) | (refine step_appAt rfl (.tmp 8) (.tmp 11) 120 rfl rdU8 elU8 (v := .slice Av L.length cv) (by first | rfl | exact cur_eq c0 | exact cur_eq d1) (hown.ext (hx1.trans XE)) (by rfl) rfl (by omega) (hs1.ext XE) (by omega) (by unfold maxLen; omega) (Nat.le_trans hE.size (Ext.size (hx1.trans XE))) ?_; intro v' w2 hown2 hg2 hat2; obtain ⟨A3, c3, rfl, _⟩ := hown2.shut hF; have hb2 := (hg2.block g (Nat.lt_of_lt_of_le hgl (Ext.size (hx1.trans XE))) (fun e => hne e.symm)).trans ((hx1.trans XE).blk hb); have d3 := bC hb2 0; have d4 := bF hb2 0))
 all_goals
   (try simp only [Exit.inBlock, Exit.then])
   have hE3 := fun h => Ext.setCell (w := w0) (a := ⟨g, 0, none⟩) (Ext.grown h hg2 (fun k hk => (hown.ge k hk).1)) hge (.slice A3 (L ++ pv n).length c3)
   replace hE3 := hE3 (Ext.trans (hE.trans hx1) XE)
   have hne3 : Value.ownBlock (.slice A3 (L ++ pv n).length c3) ≠ some g := by
     rcases hat2 with e | e
     · rw [e]; exact hne
     · rw [e]; intro h; cases h
       exact absurd hgl (Nat.not_lt.2 (Ext.size (hx1.trans XE)))
   have hw4 := Rd.Own.free (intFree .u8) (G := F) hown2 (w' := w2.setCell ⟨g, 0, none⟩ (.slice A3 (L ++ pv n).length c3)) (fun k hk => Below.heap_setCell _ _ _ _ (fun e => hne3 (by rw [hk, e])))
   have hb4 := bS hb2 0 (.slice A3 (L ++ pv n).length c3)
   have hst := stay_of hgl (hx1.trans XE) hg2 hat2 c0 (bC hb4 0)
   rw [List.length_append] at hE3 hne3 hw4 hb4 hst
   go_returns
   exact ⟨rfl, ⟨hE3, hge, _, hb4, hw4, hne3⟩, hst⟩
theorem wNumber (F : Nat → Prop) (w0 : World) (g : Nat) (L : List Int) (n : Nat) (hn : n < 1000000000) (w : World) (h : Wr F w0 w g L) (hl : L.length ≤ 1000000) (hF : ∀ k, F k → k < w0.heap.size) :
   Calls Tryz.prog 173 #[.pointer (some ⟨g, 0, none⟩), .int .i64 n] w fun e w' => e = .returned (.tuple #[]) ∧ Wr F w0 w' g (L ++ pv n) :=
 (wNumberS F w0 g L n hn w h hl hF).mono fun _ _ h => ⟨h.1, h.2.1⟩
end K22
namespace K23
open Go Go.RowKit
open KB KB2 KB3 K1 K3 K6 K7 K8 K14 K22 Num
theorem putN_le : ∀ l : List Int, (∀ n ∈ l, 0 ≤ n ∧ n < 1000000000) → (putN l).length ≤ 10 * l.length := by
 intro l
 induction l with
 | nil => intro _; simp [putN]
 | cons n l ih =>
   intro h
   have h1 := h n (List.mem_cons_self ..)
   have h2 := pv_le10 n.toNat (by omega)
   have h3 := ih (fun m hm => h m (List.mem_cons_of_mem _ hm))
   rw [putN_cons, List.length_append, List.length_cons]; omega
theorem eachRC (F : Nat → Prop) (w0 : World) (g : Nat) (L : List Int) (A : Option Addr) (c : Nat) (l : List Int) (hn : l.length ≤ 1000) (hv : ∀ n ∈ l, 0 ≤ n ∧ n < 1000000000) (w : World) (h : Wr F w0 w g L) (hl : L.length ≤ 100000) (hA : (rdInt .i64).Sl F w0 A c l) (hF : ∀ k, F k → k < w0.heap.size) :
   Calls Tryz.prog 174 #[.slice A l.length c, .func (.func 173) #[.pointer (some ⟨g, 0, none⟩)] #[]] w fun e w' => e = .returned (.tuple #[]) ∧ Wr F w0 w' g (L ++ (pv l.length ++ putN l)) := by
 have hfn : IsFn 173 := fun _ _ => rfl
 have hent := fun a => hfn #[.pointer (some ⟨g, 0, none⟩), a]
 go_enter Tryz.func174, Tryz.ntmps174
 go_wp2_with (fail)
 refine (wNumber F w0 g L l.length (by omega) w h (by omega) hF).mono ?_; rintro e w1 ⟨rfl, h1⟩
 have hp0 := pv_le10 l.length (by omega)
 go_wp2_with (fail)
 go_loopw [12] (fun i wr => ∃ k : Nat, i = .int .i64 k ∧ k ≤ l.length ∧ Wr F w0 wr g (L ++ (pv l.length ++ putN (l.take k)))) (fun i _ => l.length - (intOf i).toNat)
 case atStart => exact ⟨0, by go_num, Nat.zero_le _, by rw [List.take_zero, show putN [] = [] from rfl, List.append_nil]; exact h1⟩
 case round =>
   obtain ⟨k, rfl, hkl, hW⟩ := hrel
   by_cases hlt : k < l.length
   · obtain ⟨b, o, rfl, hc⟩ := int_get (hA.ext hW.ext) hlt
     obtain ⟨h0, h9⟩ := hv _ (List.getElem_mem hlt)
     obtain ⟨x, hx⟩ : ∃ x : Nat, l[k] = x := ⟨l[k].toNat, by omega⟩
     have hT : putN (l.take (k + 1)) = putN (l.take k) ++ pv x := by rw [take_snoc l hlt, putN_snoc, hx]; rfl
     have hq := putN_le (l.take k) (fun n hn => hv n (List.mem_of_mem_take hn))
     have hql : (l.take k).length ≤ 1000 := by rw [List.length_take]; omega
     have HB : As ((L ++ (pv l.length ++ putN (l.take k))).length ≤ 1000000) := ⟨by simp only [List.length_append]; omega⟩
     have HT := As.mk hT
     rw [hx] at hc h9
     clear hT hq hql h0
     go_wp2_with (fail)
     refine (wNumber F w0 g _ x (by omega) wr hW HB.out hF).mono ?_; rintro e w2 ⟨rfl, h2⟩
     go_wp2
     go_roundw
     case rel => exact ⟨k + 1, by go_num, by omega, by rw [HT.out]; simpa [List.append_assoc] using h2⟩
     case measure => simp [intOf]; omega
   · obtain rfl : k = l.length := by omega
     rw [List.take_length] at hW
     go_wp2
     go_returns
     exact ⟨rfl, hW⟩
end K23
end Go.Proofs.YtbjeejimedhniaaGreatDoor
