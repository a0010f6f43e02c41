/- Contracts of the program's functions, as the walks of the law use them. -/
import Derived.Test.YtbjeejimedhniaaGreatDoorD14
import Derived.Test.YtbjeejimedhniaaGreatDoorD15
import Derived.BigRegion
import Derived.RegionTactic
import Derived.Deep.RegionLaw
import Derived.Deep.DeepCutAuto
import Derived.StillTailTactics
import Derived.Test.YtbjeejimedhniaaGreatDoorD2
set_option linter.unusedVariables false
set_option linter.unusedSimpArgs false
set_option maxRecDepth 100000
set_option maxHeartbeats 2000000
namespace Go.Proofs.YtbjeejimedhniaaGreatDoor
namespace K30
open Go Go.RowKit
open KB KB2 KB3 K1 K6 K7 K8 K9 K22 K24 K25 K29
theorem indexI (F : Nat → Prop) (A : Option Addr) (c : Nat) (l : List Int) (x : Int) (j : Nat) (hj : j < l.length) (hx : l[j] = x) (hb : ∀ i (h : i < j), l[i] ≠ x) (w : World) (hA : (rdInt .i64).Sl F w A c l) (hn : l.length ≤ 1000000) :
   Calls Tryz.prog 253 #[.slice A l.length c, .int .i64 x] w fun e w' => e = .returned (.int .i64 j) ∧ w = w' := by
 go_enter Tryz.func253, Tryz.ntmps253
 go_wp2_with (fail)
 go_loop [5, 8] (fun _ i => ∃ k : Nat, i = .int .i64 k ∧ k ≤ j) (fun _ i => j - (intOf i).toNat)
 case atStart => exact ⟨0, by go_num, Nat.zero_le _⟩
 case round =>
   obtain ⟨k, rfl, hk⟩ := hrel
   obtain ⟨b, o, rfl, hc⟩ := int_get hA (k := k) (by omega)
   have hkl : k < l.length := by omega
   by_cases hlt : k < j
   · have hne : (x == l[k]) = false := beq_eq_false_iff_ne.mpr (fun e => hb k hlt e.symm)
     go_wp2
     go_round
     case rel => exact ⟨k + 1, by go_num, by omega⟩
     case measure => simp [intOf]; omega
   · obtain rfl : k = j := by omega
     rw [hx] at hc
     clear hx
     have heq : (x == x) = true := by simp
     go_wp2
     go_ret
     exact ⟨rfl, rfl⟩
theorem rowC (F : Nat → Prop) (A B : Option Addr) (c d : Nat) (l m : List Int) (j : Nat) (hj : j + m.length ≤ l.length) (h0 : 0 < m.length) (hm : (l.take (j + m.length)).drop j = m) (hb : ∀ i (h : i < j), l[i]'(by omega) ≠ m[0]) (w : World) (hA : (rdInt .i64).Sl F w A c l) (hB : (rdInt .i64).Sl F w B d m) (hn : l.length ≤ 1000000) :
   Calls Tryz.prog 156 #[.slice A l.length c, .slice B m.length d] w fun e w' => e = .returned (.int .i64 j) ∧ Ext w w' := by
 have hjl : l[j]'(by omega) = m[0] := by
   have := congrArg (fun q : List Int => q[0]?) hm
   simp only [List.getElem?_drop, Nat.add_zero, List.getElem?_take] at this
   rw [if_pos (by omega), List.getElem?_eq_getElem (by omega), List.getElem?_eq_getElem h0] at this
   simpa using this
 obtain ⟨b2, o2, rfl, hc2⟩ := int_get hB h0
 rw [Nat.add_zero] at hc2
 obtain ⟨A2, hsl, hS⟩ := hA.cut elInt j (j + m.length) m.length (j : Int) ((j : Int) + (m.length : Int)) (by omega) hj rfl (by omega) (by omega)
 rw [hm] at hS
 have hle := hA.le
 have hix := indexI F A c l m[0] j (by omega) hjl (fun i h => hb i h) w hA hn
 have heq := fun W h1 h2 => equalI F A2 (some ⟨b2, o2, none⟩) (c - j) d m m W h1 h2 (by omega) (by omega)
 rw [decide_eq_true rfl] at heq
 have d0 : decide ((j : Int) < 0) = false := decide_eq_false (by omega)
 have d1 : decide ((l.length : Int) < (j : Int) + (m.length : Int)) = false := decide_eq_false (by omega)
 have i1 : (m.length : Int) ≤ 1000000 := by omega
 have i2 : (j : Int) ≤ 1000000 := by omega
 generalize m[0] = m0 at *
 clear hjl hm
 go_enter Tryz.func156, Tryz.ntmps156
 go_wp2_with (fail)
 refine hix.mono ?_; rintro e w' ⟨rfl, rfl⟩
 go_wp2_with (fail)
 refine (heq w hS hB).mono ?_; rintro e w1 ⟨rfl, hE1⟩
 go_wp2
 go_ret
 exact ⟨rfl, hE1⟩
end K30
namespace K35
open Go Go.RowKit
open KB KB2 KB3 K1 K6 K7 P5 K34
abbrev FileM := List Int × Int
def rdFile : Rd FileM where
 sz := 2
 C := fun F w cs x => ∃ A c, cs = [.slice A x.1.length c, .int .i64 x.2] ∧ rdU8.Sl F w A c x.1
 len := by rintro _ _ _ _ ⟨A, c, rfl, _⟩; rfl
 keep := by rintro _ _ _ _ _ k ⟨A, c, rfl, h⟩; exact ⟨A, c, rfl, h.keep k⟩
 narrow := by rintro _ _ _ _ _ k ⟨A, c, rfl, h⟩; exact ⟨A, c, rfl, h.narrow (by decide) k⟩
 one := by rintro _ _ _ _ ⟨A, c, rfl, _⟩ u hu; simp at hu; rcases hu with rfl | rfl <;> rfl
abbrev ChgM := ByteArray × ByteArray × Int
def rdChg : Rd ChgM where
 sz := 3
 C := fun F w cs x => cs = [.string x.1, .string x.2.1, .int .i64 x.2.2]
 len := by rintro _ _ _ _ rfl; rfl
 keep := fun _ h => h
 narrow := fun _ h => h
 one := by rintro _ _ _ _ rfl u hu; simp at hu; rcases hu with rfl | rfl | rfl <;> rfl
theorem rdFile.at_ {F : Nat → Prop} {w : World} {b o : Nat} {x : FileM} (h : rdFile.At F w b o x) : ∃ A c, w.cell? ⟨b, o, none⟩ = some (.slice A x.1.length c) ∧ w.cell? ⟨b, o + 1, none⟩ = some (.int .i64 x.2) ∧ rdU8.Sl F w A c x.1 := by
 obtain ⟨_, cs, ⟨A, c, rfl, hs⟩, h⟩ := h; exact ⟨A, c, h 0 _ rfl, h 1 _ rfl, hs⟩
theorem file_get {F : Nat → Prop} {w : World} {A : Option Addr} {c : Nat} {l : List FileM} (h : rdFile.Sl F w A c l) {k : Nat} (hk : k < l.length) : ∃ b o A2 c2, A = some ⟨b, o, none⟩ ∧ w.cell? ⟨b, o + k * 2, none⟩ = some (.slice A2 l[k].1.length c2) ∧ w.cell? ⟨b, o + k * 2 + 1, none⟩ = some (.int .i64 l[k].2) ∧ rdU8.Sl F w A2 c2 l[k].1 := by
 obtain ⟨b, o, e, ha⟩ := h.get hk
 obtain ⟨A2, c2, h1, h2, h3⟩ := rdFile.at_ ha
 exact ⟨b, o, A2, c2, e, h1, h2, h3⟩
structure Dsk where
 quota : Nat
 steps : Nat
 lim : Nat
 files : List FileM
 M : List (ByteArray × Nat)
 clean : Bool
def DF (F : Nat → Prop) (dg mg : Nat) : Nat → Prop := fun k => F k ∨ k = dg ∨ k = mg
abbrev fsOf (files : List FileM) (M : List (ByteArray × Nat)) : List (ByteArray × FileM) := M.map fun p => (p.1, files.getD p.2 ([], 0))
abbrev dskCells (q st : Nat) (Af : Option Addr) (nf cf mg kg : Nat) (Ac : Option Addr) (nc cc : Nat) : Array Value :=
 #[.int .i64 q, .int .i64 st, .slice Af nf cf, .map (some mg), .map (some kg), .slice Ac nc cc, .slice none 0 0, .int .i64 (-1), .bool false]
def Dsk.fs (D : Dsk) : List (ByteArray × FileM) := fsOf D.files D.M
structure DiskAt (F : Nat → Prop) (w : World) (dg mg : Nat) (D : Dsk) : Prop where
 fd : ¬ F dg
 fm : ¬ F mg
 le : D.lim ≤ 100000
 sl : D.steps ≤ D.lim
 ql : D.quota ≤ 1048576
 idx : ∀ p ∈ D.M, p.2 < D.files.length
 inj : ∀ p ∈ D.M, ∀ q ∈ D.M, p.2 = q.2 → p.1 = q.1
 fl : D.files.length ≤ D.lim
 ml : D.M.length ≤ D.lim
 bl : ∀ f ∈ D.files, f.1.length ≤ 10000000
 at_ : ∃ Af cf kg Ac cc chs K, w.heap[dg]? = some (.cells (dskCells D.quota D.steps Af D.files.length cf mg kg Ac (List.length chs) cc) 104 (0, 0)) ∧
   rdFile.Sl (DF F dg mg) w Af cf D.files ∧ rdChg.Sl (DF F dg mg) w Ac cc chs ∧ NamesAt w mg D.M ∧ NamesAt w kg K ∧ kg ≠ mg ∧ ¬ F kg ∧ (D.clean = true → K = D.M ∧ chs = []) ∧ List.length chs ≤ D.lim
theorem DiskAt.keep {F : Nat → Prop} {w w' : World} {dg mg : Nat} {D : Dsk} (h : DiskAt F w dg mg D) (k : Keep F w w') : DiskAt F w' dg mg D := by
 obtain ⟨fd, fm, le, sl, ql, h8, h9, h10, h11, h12, Af, cf, kg, Ac, cc, chs, K, hb, h1, h2, h3, h4, h5, h6, rest⟩ := h
 have kd := k.mono (G := DF F dg mg) (fun _ _ q => .inl q)
 exact ⟨fd, fm, le, sl, ql, h8, h9, h10, h11, h12, Af, cf, kg, Ac, cc, chs, K, k.blk fd hb, h1.keep kd, h2.keep kd, h3.keep k fm, h4.keep k h6, h5, h6, rest⟩
theorem DiskAt.ext {F : Nat → Prop} {w w' : World} {dg mg : Nat} {D : Dsk} (h : DiskAt F w dg mg D) (k : Ext w w') : DiskAt F w' dg mg D := h.keep (k.keep F)
theorem DiskAt.lt {F : Nat → Prop} {w : World} {dg mg : Nat} {D : Dsk} (h : DiskAt F w dg mg D) : dg < w.heap.size ∧ mg < w.heap.size := by
 obtain ⟨fd, fm, le, sl, ql, h8, h9, h10, h11, h12, Af, cf, kg, Ac, cc, chs, K, hb, h1, h2, h3, rest⟩ := h
 exact ⟨blk_lt hb, h3.lt⟩
abbrev Two' (dg mg : Nat) : Nat → Prop := fun k => k = dg ∨ k = mg
theorem containsNone (x : Int) (w : World) : Calls Tryz.prog 189 #[.slice none 0 0, .int .i64 x] w fun e w' => e = .returned (.bool false) ∧ w = w' := by
 have hix : Calls Tryz.prog 253 #[.slice none 0 0, .int .i64 x] w fun e w' => e = .returned (.int .i64 (-1)) ∧ w = w' := by
   go_enter Tryz.func253, Tryz.ntmps253
   go_wp2_with (fail)
   refine wp_loop_rounds 1 ?_
   rw [rounds_succ]
   go_wp2
   go_ret
   exact ⟨rfl, rfl⟩
 go_enter Tryz.func189, Tryz.ntmps189
 go_wp2_with (fail)
 refine hix.mono ?_; rintro e w' ⟨rfl, rfl⟩
 go_wp2
 go_ret
 exact ⟨rfl, rfl⟩
theorem stepC (F : Nat → Prop) (dg mg : Nat) (D : Dsk) (w : World) (h : DiskAt F w dg mg D) (hl : D.lim < 100000) (fn gn : Nat) (cf cg : Array Value) (P : World → Prop) (hen : IsFn fn)
   (hdo : ∀ W, DiskAt F W dg mg { D with steps := D.steps + 1, lim := D.lim + 1 } → Keep (Two' dg mg) w W → Calls Tryz.prog fn cf W fun e w' => e = .returned (.int .i64 0) ∧ P w') :
   Calls Tryz.prog 136 #[.pointer (some ⟨dg, 0, none⟩), .func (.func fn) #[] cf, .func (.func gn) #[] cg] w fun e w' => e = .returned (.int .i64 0) ∧ P w' := by
 have hent := hen cf
 obtain ⟨fd, fm, le, sl, ql, h8, h9, h10, h11, h12, Af, cff, kg, Ac, cc, chs, K, hb, h1, h2, h3, h4, h5, h6, h7, h13⟩ := h
 (have p0 := bC (hb) 0; have pf0 := bF (hb) 0; have p1 := bC (hb) 1; have pf1 := bF (hb) 1; have p2 := bC (hb) 2; have pf2 := bF (hb) 2; have p3 := bC (hb) 3; have pf3 := bF (hb) 3; have p4 := bC (hb) 4; have pf4 := bF (hb) 4; have p5 := bC (hb) 5; have pf5 := bF (hb) 5; have p6 := bC (hb) 6; have pf6 := bF (hb) 6; have p7 := bC (hb) 7; have pf7 := bF (hb) 7; have p8 := bC (hb) 8; have pf8 := bF (hb) 8)
 go_enter Tryz.func136, Tryz.ntmps136
 go_wp2_with (fail)
 go_region
 (try simp only [Exit.inBlock, Exit.then])
 have d1 : decide ((0 : Int) ≤ -1) = false := by decide
 go_wp2_with (fail)
 have hb1 := bS hb 1 (.int .i64 (D.steps + 1))
 have K1 := kS1 w dg 1 (.int .i64 (D.steps + 1))
 generalize (w.setCell ⟨dg, 1, none⟩ (.int .i64 (D.steps + 1))) = w1 at *
 have hb2 : w1.heap[dg]? = some (.cells (dskCells D.quota (D.steps + 1) Af D.files.length cff mg kg Ac chs.length cc) 104 (0, 0)) := hb1
 clear hb1
 clear p0 pf0 p1 pf1 p2 pf2 p3 pf3 p4 pf4 p5 pf5 p6 pf6 p7 pf7 p8 pf8
 (have p0 := bC (hb2) 0; have pf0 := bF (hb2) 0; have p1 := bC (hb2) 1; have pf1 := bF (hb2) 1; have p2 := bC (hb2) 2; have pf2 := bF (hb2) 2; have p3 := bC (hb2) 3; have pf3 := bF (hb2) 3; have p4 := bC (hb2) 4; have pf4 := bF (hb2) 4; have p5 := bC (hb2) 5; have pf5 := bF (hb2) 5; have p6 := bC (hb2) 6; have pf6 := bF (hb2) 6; have p7 := bC (hb2) 7; have pf7 := bF (hb2) 7; have p8 := bC (hb2) 8; have pf8 := bF (hb2) 8)
 have hD : DiskAt F w1 dg mg { D with steps := D.steps + 1, lim := D.lim + 1 } := by
   have kd : Keep (DF F dg mg) w w1 := K1.mono (fun _ _ q => .inr (.inl q))
   have hmd : mg ≠ dg := h3.notCells hb
   have hkd : kg ≠ dg := h4.notCells hb
   exact ⟨fd, fm, (by show D.lim + 1 ≤ _; omega), (by show D.steps + 1 ≤ D.lim + 1; omega), ql, h8, h9, Nat.le_succ_of_le h10, Nat.le_succ_of_le h11, h12, Af, cff, kg, Ac, cc, chs, K, hb2, h1.keep kd, h2.keep kd, h3.keep K1 hmd, h4.keep K1 hkd, h5, h6, h7, Nat.le_succ_of_le h13⟩
 have keep : ∀ w', Ext w1 w' → Ext w1 w' ∧ w'.cell? ⟨dg, 6, none⟩ = some (.slice none 0 0) ∧ w'.cell? ⟨dg, 1, none⟩ = some (.int .i64 (D.steps + 1)) := fun w' h => ⟨h, h.cell p6, h.cell p1⟩
 go_region_held3 (fun w' => Ext w1 w' ∧ w'.cell? ⟨dg, 6, none⟩ = some (.slice none 0 0) ∧ w'.cell? ⟨dg, 1, none⟩ = some (.int .i64 (D.steps + 1))) (((try dsimp only); refine keep _ ?_; first | with_reducible assumption | exact XE)) (first | (go_at_call 189; refine (containsNone _ _).mono ?_; rintro e w2 ⟨rfl, hw2⟩; have hE2 : Ext w1 w2 := (by rw [← hw2]; exact XE)))
 (try simp only [Exit.inBlock, Exit.then])
 go_wp2_with (fail)
 refine (hdo w2 (hD.ext hE2) ((K1.mono (fun _ _ q => .inl q)).trans (hE2.keep _))).mono ?_; rintro e w3 ⟨rfl, hP⟩
 go_wp2
 go_ret
 exact ⟨rfl, hP⟩
end K35
namespace K36
open Go Go.RowKit
open KB KB2 KB3 K1 K6 K7 P5 K34 K35
theorem mayC (s : ByteArray) (h0 : 0 < s.size) (h1 : s.size ≤ 20) (w : World) : Calls Tryz.prog 138 #[.agg #[.string s]] w fun e w' => e = .returned (.bool true) ∧ Ext w w' := by
 have d0 : decide ((0 : Int) < (s.size : Int)) = true := decide_eq_true (by omega)
 have d1 : decide ((s.size : Int) ≤ 20) = true := decide_eq_true (by omega)
 go_enter Tryz.func138, Tryz.ntmps138
 go_wp2
 go_ret
 exact ⟨rfl, (Ext.refl w).alloc _⟩
abbrev chgV (c : ChgM) : Value := .agg #[.string c.1, .string c.2.1, .int .i64 c.2.2]
abbrev emp : ByteArray := ⟨#[]⟩
theorem doPutC (mg : Nat) (M : List (ByteArray × Nat)) (f t : ByteArray) (i : Nat) (hi : i ≤ 100000) (hf : f.size ≤ 1000) (ht : t.size ≤ 1000) (hte : ¬ t.toList = []) (hM : M.length ≤ 100000) (w : World) (h : NamesAt w mg M) :
   Calls Tryz.prog 243 #[.map (some mg), chgV (f, t, (i : Int))] w fun e w' => e = .returned (.tuple #[]) ∧ NamesAt w' mg (putA t i (delA f M)) ∧ Keep (fun k => k = mg) w w' := by
 have hB := bN w (.cells #[.string f, .string t, .int .i64 i] 219)
 have hE := (Ext.refl w).alloc (.cells #[.string f, .string t, .int .i64 i] 219)
 have hne : mg ≠ w.heap.size := by have := h.lt; omega
 have hmx : (1000 : Nat) ≤ maxLen := by unfold maxLen; omega
 go_enter Tryz.func243, Tryz.ntmps243
 go_wp2_with (first | (at_delete; refine delete_ rfl _ _ rfl mg M rfl (h.ext hE) f (Nat.le_trans hf hmx) rfl ?_; intro w1 h1 g1; have hB1 := (g1.block w.heap.size (by simp) (fun e => hne (by cases e; rfl))).trans hB; have q1 := bC hB1 1; have q2 := bC hB1 2) | (at_mapUpdate; refine store_ rfl _ _ _ rfl mg (delA f M) rfl h1 t ht i (by omega) rfl rfl (by have := del_length f M; omega) ?_; intro w2 h2 g2))
 all_goals first | exact absurd ‹_› hte | skip
 go_returns
 exact ⟨rfl, h2, ((hE.keep _).trans (Keep.of_grown g1 (fun k hk _ => by cases hk; rfl))).trans (Keep.of_grown g2 (fun k hk _ => by cases hk; rfl))⟩
theorem doDelC (mg : Nat) (M : List (ByteArray × Nat)) (f : ByteArray) (hf : f.size ≤ 1000) (w : World) (h : NamesAt w mg M) :
   Calls Tryz.prog 243 #[.map (some mg), chgV (f, emp, 0)] w fun e w' => e = .returned (.tuple #[]) ∧ NamesAt w' mg (delA f M) ∧ Keep (fun k => k = mg) w w' := by
 have hB := bN w (.cells #[.string f, .string emp, .int .i64 0] 219)
 have hE := (Ext.refl w).alloc (.cells #[.string f, .string emp, .int .i64 0] 219)
 have hne : mg ≠ w.heap.size := by have := h.lt; omega
 have hmx : (1000 : Nat) ≤ maxLen := by unfold maxLen; omega
 go_enter Tryz.func243, Tryz.ntmps243
 go_wp2_with (first | (at_delete; refine delete_ rfl _ _ rfl mg M rfl (h.ext hE) f (Nat.le_trans hf hmx) rfl ?_; intro w1 h1 g1; have hB1 := (g1.block w.heap.size (by simp) (fun e => hne (by cases e; rfl))).trans hB; have q1 := bC hB1 1; have q2 := bC hB1 2))
 go_returns
 exact ⟨rfl, h1, (hE.keep _).trans (Keep.of_grown g1 (fun k hk _ => by cases hk; rfl))⟩
end K36
namespace K37
open Go Go.RowKit
open KB KB2 KB3 K1 K6 K7 K29 P5 K34 K35 K36
theorem elChg : El Tryz.prog 102 219 rdChg.sz 40 := El.mk (z := .agg #[.string ⟨#[]⟩, .string ⟨#[]⟩, .int .i64 0]) Tryz.underlying102 (by kernel_rfl) rfl (by decide)
theorem elFile : El Tryz.prog 99 216 rdFile.sz 32 := El.mk (z := .agg #[.slice none 0 0, .int .i64 0]) Tryz.underlying99 (by kernel_rfl) rfl (by decide)
theorem delA_absent {β : Type} {n : ByteArray} {l : List (ByteArray × β)} (h : getA n l = none) : delA n l = l := by
 rw [delA, List.filter_eq_self]
 intro p hp
 have := getA_none.1 h
 simp only [ne_eq, decide_not, Bool.not_eq_eq_eq_not, Bool.not_true, decide_eq_false_iff_not]
 intro e
 exact this (List.mem_map.2 ⟨p, hp, e⟩)
theorem mem_delA {β : Type} {n : ByteArray} {l : List (ByteArray × β)} {p : ByteArray × β} (h : p ∈ delA n l) : p ∈ l ∧ p.1 ≠ n := by
 have := List.mem_filter.1 h
 exact ⟨this.1, by simpa using this.2⟩
theorem put_le {β : Type} (n : ByteArray) (x : β) : ∀ l : List (ByteArray × β), (putA n x l).length ≤ l.length + 1
 | [] => by simp [putA]
 | (m, y) :: l => by
   have ih := put_le n x l
   rw [putA]
   split
   · simp
   · split
     · simp
     · simp; omega
theorem turnPutC (F : Nat → Prop) (dg mg : Nat) (D : Dsk) (w : World) (h : DiskAt F w dg mg D) (hl : D.lim < 100000) (f : ByteArray) (hf : f.size ≤ 1000) (t : ByteArray) (ht : t.size ≤ 1000) (hte : ¬ t.toList = []) (i : Nat) (hi : i < D.files.length) (hfr : ∀ p ∈ D.M, p.1 ≠ f → p.2 ≠ i) (hF : ∀ k, F k → k < w.heap.size) :
   Calls Tryz.prog 140 #[.pointer (some ⟨dg, 0, none⟩), chgV (f, t, (i : Int))] w fun e w' => e = .returned (.int .i64 0) ∧ DiskAt F w' dg mg { D with lim := D.lim + 1, M := putA t i (delA f D.M), clean := false } ∧ Keep (Two' dg mg) w w' := by
 obtain ⟨fd, fm, le, sl, ql, h8, h9, h10, h11, h12, Af, cff, kg, Ac, cc, chs, K, hb, h1, h2, h3, h4, h5, h6, h7, h13⟩ := h
 have hmd : mg ≠ dg := h3.notCells hb
 have hkd : kg ≠ dg := h4.notCells hb
 have hx := bN w (.cells #[.string f, .string t, .int .i64 i] 219)
 have hE := (Ext.refl w).alloc (.cells #[.string f, .string t, .int .i64 i] 219)
 have hb1 := hE.blk hb
 have h3' := h3.ext hE
 have hdl := blk_lt hb
 have hml := h3.lt
 go_enter Tryz.func140, Tryz.ntmps140
 go_wp2_with (fail)
 generalize (w.alloc (.cells #[.string f, .string t, .int .i64 i] 219)) = w1 at *
 obtain ⟨x, hxx⟩ : ∃ x, w.heap.size = x := ⟨_, rfl⟩
 rw [hxx] at hx hdl hml ⊢
 have keep : ∀ w', Keep (fun k => k = mg) w1 w' → Keep (fun k => k = mg) w1 w' ∧ w'.cell? ⟨dg, 3, none⟩ = some (.map (some mg)) ∧ w'.cell? ⟨x, 0, none⟩ = some (.string f) ∧ w'.cell? ⟨x, 1, none⟩ = some (.string t) ∧ w'.cell? ⟨x, 2, none⟩ = some (.int .i64 i) := fun w' k => ⟨k, k.cell (by omega : ¬ dg = mg) (bC hb1 3), k.cell (by omega : ¬ x = mg) (bC hx 0), k.cell (by omega : ¬ x = mg) (bC hx 1), k.cell (by omega : ¬ x = mg) (bC hx 2)⟩
 go_region_held3 (fun w' => Keep (fun k => k = mg) w1 w' ∧ w'.cell? ⟨dg, 3, none⟩ = some (.map (some mg)) ∧ w'.cell? ⟨x, 0, none⟩ = some (.string f) ∧ w'.cell? ⟨x, 1, none⟩ = some (.string t) ∧ w'.cell? ⟨x, 2, none⟩ = some (.int .i64 i)) (((try dsimp only); refine keep _ ?_; first | with_reducible assumption | exact Keep.refl _ _ | exact (Ext.keep (w := w1) XE _))) (first | (go_at_call 243; refine (doPutC mg D.M f t i (by omega) hf ht hte (by omega) _ (h3'.ext XE)).mono ?_; rintro e w2 ⟨rfl, n2, k2⟩; have k2' : Keep (fun k => k = mg) w1 w2 := Keep.pre k2 XE))
 (try simp only [Exit.inBlock, Exit.then])
 have hb2 := k2'.blk (by omega : ¬ dg = mg) hb1
 have hx2 := k2'.blk (by omega : ¬ x = mg) hx
 have kd2 : Keep (DF F dg mg) w w2 := Keep.pre (k2'.mono (fun _ _ q => .inr (.inr q))) hE
 have hc2 := h2.keep kd2
 have hcle := h2.le
 have hcl : List.length chs ≤ 100000 := by omega
 have z5 := bC hb2 5
 have zf5 := bF hb2 5
 have zx0 := bC hx2 0
 have zx1 := bC hx2 1
 have zx2 := bC hx2 2
 have y5 := bC (bO2 (o' := .cells #[.string f, .string t, .int .i64 i] 219) hb2) 5
 have hdl2 := blk_lt hb2
 have hws : x < w2.heap.size := blk_lt hx2
 go_wp2_with (fail)
 go_region_law (first | (go_simp; go_at_call 244; refine (clipC rdChg (DF F dg mg) Ac cc chs _ (hc2.ext XE)).mono ?_; rintro e w' ⟨rfl, rfl⟩; dsimp only) | (refine step_clip rfl (.tmp 16) (.tmp 18) 102 rfl rdChg elChg (by rfl) rfl ((Sl_clip hc2).ext XE) (by rfl) (by exact heap_alloc_new _ _) (y := (f, t, (i : Int))) rfl (by omega) (by unfold maxLen; omega) ?_; intro v' w3 hown3 hE3; have hE23 : Ext w2 w3 := Ext.trans XE hE3; replace hown3 := hown3.lower (Ext.size (w := w2) XE); obtain ⟨A3, c3, rfl, hs3⟩ := hown3.shut (fun k q => by rcases q with q | q | q; (· have := hF k q; omega); omega; omega); have s5 := bC (hE23.blk hb2) 5; have sf5 := bF (hE23.blk hb2) 5))
 all_goals
   (try simp only [Exit.inBlock, Exit.then])
   have hll : (chs ++ [(f, t, (i : Int))]).length = List.length chs + 1 := by simp
   have hb4 := bS (hE23.blk hb2) 5 (.slice A3 (List.length chs + 1) c3)
   have K4 := kS1 w3 dg 5 (.slice A3 (List.length chs + 1) c3)
   have kd4 : Keep (DF F dg mg) w3 (w3.setCell ⟨dg, 5, none⟩ (.slice A3 (List.length chs + 1) c3)) := K4.mono (fun _ _ q => .inr (.inl q))
   have HLL := As.mk hll
   clear hll
   go_wp2
   go_ret
   refine ⟨rfl, ⟨fd, fm, (by show D.lim + 1 ≤ _; omega), (by show D.steps ≤ D.lim + 1; omega), ql, (fun p hp => by rcases mem_putA hp with e | e; (· rw [e]; exact hi); exact h8 p (mem_delA e).1), (fun p hp q hq e => by rcases mem_putA hp with e1 | e1 <;> rcases mem_putA hq with e2 | e2; (· rw [e1, e2]); (· rw [e1] at e; exact absurd e.symm (hfr q (mem_delA e2).1 (mem_delA e2).2)); (· rw [e2] at e; exact absurd e (hfr p (mem_delA e1).1 (mem_delA e1).2)); exact h9 p (mem_delA e1).1 q (mem_delA e2).1 e), Nat.le_succ_of_le h10, (Nat.le_trans (put_le _ _ _) (Nat.succ_le_succ (Nat.le_trans (del_length _ _) h11))), h12, Af, cff, kg, A3, c3, chs ++ [(f, t, (i : Int))], K, by rw [HLL.out]; exact hb4, ((h1.keep kd2).ext hE23).keep kd4, hs3.keep kd4, (n2.ext hE23).keep K4 hmd, (((h4.ext hE).keep k2' h5).ext hE23).keep K4 hkd, h5, h6, (fun q => by cases q), by rw [HLL.out]; show _ ≤ D.lim + 1; omega⟩, ((Keep.pre k2' hE).post hE23 |>.or K4).mono (fun _ _ q => q.symm)⟩
theorem turnDelC (F : Nat → Prop) (dg mg : Nat) (D : Dsk) (w : World) (h : DiskAt F w dg mg D) (hl : D.lim < 100000) (f : ByteArray) (hf : f.size ≤ 1000) (hF : ∀ k, F k → k < w.heap.size) :
   Calls Tryz.prog 140 #[.pointer (some ⟨dg, 0, none⟩), chgV (f, emp, 0)] w fun e w' => e = .returned (.int .i64 0) ∧ DiskAt F w' dg mg { D with lim := D.lim + 1, M := delA f D.M, clean := false } ∧ Keep (Two' dg mg) w w' := by
 obtain ⟨fd, fm, le, sl, ql, h8, h9, h10, h11, h12, Af, cff, kg, Ac, cc, chs, K, hb, h1, h2, h3, h4, h5, h6, h7, h13⟩ := h
 have hmd : mg ≠ dg := h3.notCells hb
 have hkd : kg ≠ dg := h4.notCells hb
 have hx := bN w (.cells #[.string f, .string emp, .int .i64 0] 219)
 have hE := (Ext.refl w).alloc (.cells #[.string f, .string emp, .int .i64 0] 219)
 have hb1 := hE.blk hb
 have h3' := h3.ext hE
 have hdl := blk_lt hb
 have hml := h3.lt
 go_enter Tryz.func140, Tryz.ntmps140
 go_wp2_with (fail)
 generalize (w.alloc (.cells #[.string f, .string emp, .int .i64 0] 219)) = w1 at *
 obtain ⟨x, hxx⟩ : ∃ x, w.heap.size = x := ⟨_, rfl⟩
 rw [hxx] at hx hdl hml ⊢
 have keep : ∀ w', Keep (fun k => k = mg) w1 w' → Keep (fun k => k = mg) w1 w' ∧ w'.cell? ⟨dg, 3, none⟩ = some (.map (some mg)) ∧ w'.cell? ⟨x, 0, none⟩ = some (.string f) ∧ w'.cell? ⟨x, 1, none⟩ = some (.string emp) ∧ w'.cell? ⟨x, 2, none⟩ = some (.int .i64 0) := fun w' k => ⟨k, k.cell (by omega : ¬ dg = mg) (bC hb1 3), k.cell (by omega : ¬ x = mg) (bC hx 0), k.cell (by omega : ¬ x = mg) (bC hx 1), k.cell (by omega : ¬ x = mg) (bC hx 2)⟩
 go_region_held3 (fun w' => Keep (fun k => k = mg) w1 w' ∧ w'.cell? ⟨dg, 3, none⟩ = some (.map (some mg)) ∧ w'.cell? ⟨x, 0, none⟩ = some (.string f) ∧ w'.cell? ⟨x, 1, none⟩ = some (.string emp) ∧ w'.cell? ⟨x, 2, none⟩ = some (.int .i64 0)) (((try dsimp only); refine keep _ ?_; first | with_reducible assumption | exact Keep.refl _ _ | exact (Ext.keep (w := w1) XE _))) (first | (go_at_call 243; refine (doDelC mg D.M f hf _ (h3'.ext XE)).mono ?_; rintro e w2 ⟨rfl, n2, k2⟩; have k2' : Keep (fun k => k = mg) w1 w2 := Keep.pre k2 XE))
 (try simp only [Exit.inBlock, Exit.then])
 have hb2 := k2'.blk (by omega : ¬ dg = mg) hb1
 have hx2 := k2'.blk (by omega : ¬ x = mg) hx
 have kd2 : Keep (DF F dg mg) w w2 := Keep.pre (k2'.mono (fun _ _ q => .inr (.inr q))) hE
 have hc2 := h2.keep kd2
 have hcle := h2.le
 have hcl : List.length chs ≤ 100000 := by omega
 have z5 := bC hb2 5
 have zf5 := bF hb2 5
 have zx0 := bC hx2 0
 have zx1 := bC hx2 1
 have zx2 := bC hx2 2
 have y5 := bC (bO2 (o' := .cells #[.string f, .string emp, .int .i64 0] 219) hb2) 5
 have hdl2 := blk_lt hb2
 have hws : x < w2.heap.size := blk_lt hx2
 go_wp2_with (fail)
 go_region_law (first | (go_simp; go_at_call 244; refine (clipC rdChg (DF F dg mg) Ac cc chs _ (hc2.ext XE)).mono ?_; rintro e w' ⟨rfl, rfl⟩; dsimp only) | (refine step_clip rfl (.tmp 16) (.tmp 18) 102 rfl rdChg elChg (by rfl) rfl ((Sl_clip hc2).ext XE) (by rfl) (by exact heap_alloc_new _ _) (y := (f, emp, 0)) rfl (by omega) (by unfold maxLen; omega) ?_; intro v' w3 hown3 hE3; have hE23 : Ext w2 w3 := Ext.trans XE hE3; replace hown3 := hown3.lower (Ext.size (w := w2) XE); obtain ⟨A3, c3, rfl, hs3⟩ := hown3.shut (fun k q => by rcases q with q | q | q; (· have := hF k q; omega); omega; omega); have s5 := bC (hE23.blk hb2) 5; have sf5 := bF (hE23.blk hb2) 5))
 all_goals
   (try simp only [Exit.inBlock, Exit.then])
   have hll : (chs ++ [(f, emp, 0)]).length = List.length chs + 1 := by simp
   have hb4 := bS (hE23.blk hb2) 5 (.slice A3 (List.length chs + 1) c3)
   have K4 := kS1 w3 dg 5 (.slice A3 (List.length chs + 1) c3)
   have kd4 : Keep (DF F dg mg) w3 (w3.setCell ⟨dg, 5, none⟩ (.slice A3 (List.length chs + 1) c3)) := K4.mono (fun _ _ q => .inr (.inl q))
   have HLL := As.mk hll
   clear hll
   go_wp2
   go_ret
   refine ⟨rfl, ⟨fd, fm, (by show D.lim + 1 ≤ _; omega), (by show D.steps ≤ D.lim + 1; omega), ql, (fun p hp => h8 p (mem_delA hp).1), (fun p hp q hq e => h9 p (mem_delA hp).1 q (mem_delA hq).1 e), Nat.le_succ_of_le h10, (Nat.le_succ_of_le (Nat.le_trans (del_length _ _) h11)), h12, Af, cff, kg, A3, c3, chs ++ [(f, emp, 0)], K, by rw [HLL.out]; exact hb4, ((h1.keep kd2).ext hE23).keep kd4, hs3.keep kd4, (n2.ext hE23).keep K4 hmd, (((h4.ext hE).keep k2' h5).ext hE23).keep K4 hkd, h5, h6, (fun q => by cases q), by rw [HLL.out]; show _ ≤ D.lim + 1; omega⟩, ((Keep.pre k2' hE).post hE23 |>.or K4).mono (fun _ _ q => q.symm)⟩
end K37
namespace K38
open Go Go.RowKit Go.Maps
open KB KB2 KB3 K1 K6 K7 K29 P5 K33 K34 K35 K36 K37
def used (fs : List (ByteArray × FileM)) : Nat := total (fun f => f.1.length) fs
def usedOf (left : Lit → Bool) (fs : List (ByteArray × FileM)) : Nat := (fs.map fun p => if left (kl p.1) = true then 0 else p.2.1.length).sum
theorem usedOf_cons (left : Lit → Bool) (p : ByteArray × FileM) (fs : List (ByteArray × FileM)) : usedOf left (p :: fs) = (if left (kl p.1) = true then 0 else p.2.1.length) + usedOf left fs := rfl
theorem used_cons (p : ByteArray × FileM) (fs : List (ByteArray × FileM)) : used (p :: fs) = p.2.1.length + used fs := rfl
theorem usedOf_none {left : Lit → Bool} : ∀ {fs : List (ByteArray × FileM)}, (∀ p ∈ fs, left (kl p.1) = true) → usedOf left fs = 0
 | [], _ => rfl
 | p :: fs, h => by
   rw [usedOf_cons, usedOf_none (fun q hq => h q (List.mem_cons_of_mem _ hq)), if_pos (h p (List.mem_cons_self ..))]
theorem usedOf_all {left : Lit → Bool} : ∀ {fs : List (ByteArray × FileM)}, (∀ k, left k = false) → usedOf left fs = used fs
 | [], _ => rfl
 | p :: fs, h => by
   rw [usedOf_cons, used_cons, usedOf_all h, if_neg (by rw [h]; decide)]
theorem usedOf_congr {left left' : Lit → Bool} : ∀ {fs : List (ByteArray × FileM)}, (∀ p ∈ fs, left (kl p.1) = left' (kl p.1)) → usedOf left fs = usedOf left' fs
 | [], _ => rfl
 | p :: fs, h => by
   rw [usedOf_cons, usedOf_cons, usedOf_congr (fun q hq => h q (List.mem_cons_of_mem _ hq)), h p (List.mem_cons_self ..)]
theorem usedOf_le (left : Lit → Bool) : ∀ fs : List (ByteArray × FileM), usedOf left fs ≤ used fs
 | [] => Nat.le_refl _
 | p :: fs => by
   have ih := usedOf_le left fs
   rw [usedOf_cons, used_cons]
   split <;> omega
theorem usedOf_step {left : Lit → Bool} {s : ByteArray} {f : FileM} (hs : s.size ≤ maxLen) : ∀ {fs : List (ByteArray × FileM)}, SrtA fs → (∀ p ∈ fs, p.1.size ≤ maxLen) → getA s fs = some f → left (kl s) = true → usedOf (fun z => left z && !z.sameKey (kl s)) fs = usedOf left fs + f.1.length
 | [], _, _, h, _ => by cases h
 | (m, g) :: fs, hsr, hsz, h, hl => by
   obtain ⟨h1, h2⟩ := List.pairwise_cons.1 hsr
   have hms := hsz (m, g) (List.mem_cons_self ..)
   rw [getA] at h
   rw [usedOf_cons, usedOf_cons]
   by_cases e : s = m
   · rw [if_pos e] at h
     cases h
     subst e
     have hc : usedOf (fun z => left z && !z.sameKey (kl s)) fs = usedOf left fs := usedOf_congr fun p hp => by
       have hne : p.1 ≠ s := fun q => by have := h1 p hp; rw [q] at this; exact ltN_irrefl _ this
       have : (kl p.1).sameKey (kl s) = false := sameKey_ne (fun q => hne (kl_inj (hsz p (List.mem_cons_of_mem _ hp)) hs q))
       simp [this]
     rw [hc, if_pos hl, if_neg (by simp [WideAt.sameKey_self (litKey s)])]
     show f.1.length + _ = 0 + _ + f.1.length
     omega
   · rw [if_neg e] at h
     have ih := usedOf_step hs h2 (fun p hp => hsz p (List.mem_cons_of_mem _ hp)) h hl
     have : (kl m).sameKey (kl s) = false := sameKey_ne (fun q => e (kl_inj hs hms q.symm))
     have e2 : (if (left (kl m) && !(kl m).sameKey (kl s)) = true then 0 else g.1.length) = (if left (kl m) = true then 0 else g.1.length) := by rw [this]; simp
     show (if (left (kl m) && !(kl m).sameKey (kl s)) = true then 0 else g.1.length) + _ = (if left (kl m) = true then 0 else g.1.length) + _ + _
     rw [e2, ih]
     omega
theorem fsOf_srt {files : List FileM} {M : List (ByteArray × Nat)} (h : SrtA M) : SrtA (fsOf files M) := List.pairwise_map.2 h
theorem getA_fsOf (files : List FileM) (n : ByteArray) (M : List (ByteArray × Nat)) : getA n (fsOf files M) = (getA n M).map fun i => files.getD i ([], 0) := getA_map (fun i => files.getD i ([], 0)) n M
theorem usedC (F : Nat → Prop) (dg mg : Nat) (D : Dsk) (w : World) (h : DiskAt F w dg mg D) (hu : used D.fs ≤ 100000000) :
   Calls Tryz.prog 245 #[.pointer (some ⟨dg, 0, none⟩)] w fun e w' => e = .returned (.int .i64 (used D.fs)) ∧ Ext w w' := by
 obtain ⟨fd, fm, le, sl, ql, h8, h9, h10, h11, h12, Af, cff, kg, Ac, cc, chs, K, hb, h1, h2, h3, h4, h5, h6, h7, h13⟩ := h
 obtain ⟨Dm, hD, hown⟩ := h3.at_
 have hsrt : SrtA D.fs := fsOf_srt (files := D.files) h3.srt
 have hsm : ∀ p ∈ D.fs, p.1.size ≤ maxLen := fun p hp => by
   obtain ⟨q, hq, rfl⟩ := List.mem_map.1 hp
   exact Nat.le_trans (h3.small q hq) (by unfold maxLen; omega)
 have c3 := bC hb 3
 go_enter Tryz.func245, Tryz.ntmps245
 go_wp2_with (first | (at_range; refine wpList_range_own _ rfl _ 101 rfl 211 3 law Tryz.underlying101 _ mg D.M.length Dm rfl hown ?_; intro w0 hrg0 hg0 hs0))
 go_frame
 have hE0 : Ext w w0 := ext_grown hg0
 go_loopw [3, 5] (fun n _ wr => ∃ (left : Lit → Bool) (cnt : Nat), wr.ranges Tryz.prog 211 (plainElem Tryz.prog 3) mg w.heap.size D.M.length Dm left cnt ∧ n = .int .i64 (usedOf left D.fs) ∧ Ext w wr) (fun _ _ wr => wr.rangeLeft mg w.heap.size)
 case atStart => exact ⟨_, _, hrg0, by rw [usedOf_none (fun p hp => by obtain ⟨q, hq, rfl⟩ := List.mem_map.1 hp; rw [(hD.look q.1 (hsm _ hp)).1, mem_getA h3.srt hq]; rfl)]; rfl, hE0⟩
 case round =>
   obtain ⟨left, cnt, hrg, rfl, hE⟩ := hrel
   go_wp2_with (first | (at_next; refine wpList_next_ranges _ rfl _ rfl 211 law (plainElem Tryz.prog 3) (fun s : ByteArray => .agg #[.string s]) (Value.int .i64) (fun key kl hk => by obtain ⟨s, _, rfl, _⟩ := key_inv hk; exact ⟨s, rfl⟩) (fun v y hv => by obtain ⟨c, rfl, _⟩ := plainElem_int_inv Tryz.underlying3 hv; exact ⟨c, rfl⟩) mg w.heap.size _ _ _ _ rfl hrg ?_ ?_))
   · intro hc0 hl0
     have hU := As.mk (usedOf_all (fs := D.fs) hl0)
     go_wp2
     go_ret
     exact ⟨by rw [hU.out]; rfl, hE⟩
   · intro s c kk yd yp w2 cnt2 hkey hlk hv hat hrg2 hlt hg2 hs2 hen
     obtain ⟨s', hs', he, rfl⟩ := key_inv hkey
     simp only [Value.agg.injEq, Array.mk.injEq, List.cons.injEq, Value.string.injEq, and_true] at he
     subst he
     have hhas := Maps.has_true_of_atKey hat
     rw [(hD.look s hs').1] at hhas
     obtain ⟨i, hi⟩ := Option.isSome_iff_exists.1 hhas
     have hci : c = (i : Int) := by
       obtain ⟨c', e1, e2, _⟩ := plainElem_int_inv Tryz.underlying3 hv
       cases e1
       have e3 := hat (.lit (.int .i64 0))
       have e4 := (Prod.mk.inj e2).1
       rw [(hD.look s hs').2 i hi, e4] at e3
       injection e3 with e3
       injection e3 with _ e3
       exact e3.symm
     subst hci
     have hil : i < D.files.length := h8 (s, i) (getA_mem hi)
     have E2 : Ext w w2 := hE.grown hg2 (fun k e => by cases e; exact Nat.le_refl _)
     have hgf : getA s D.fs = some D.files[i] := by rw [Dsk.fs, getA_fsOf, hi]; simp [List.getD_eq_getElem?_getD, hil]
     have hst := As.mk (usedOf_step hs' hsrt hsm hgf hlk)
     have hle2 := usedOf_le (fun z => left z && !z.sameKey (kl s)) D.fs
     rw [hst.out] at hle2
     obtain ⟨b, o, A2, c2, rfl, f1, f2, f3⟩ := file_get (h1.ext E2) hil
     have q2 := bC (E2.blk hb) 2
     have i0 : (i : Int) < (D.files.length : Int) := by omega
     have i1 : (D.files[i].1.length : Int) ≤ 100000000 := by omega
     have i2 : (usedOf left D.fs : Int) ≤ 100000000 := by omega
     clear hgf hhas hi hle2 hv hat hkey hs2 c3
     go_wp2
     go_roundw
     case rel => exact ⟨_, cnt2, hrg2, by rw [hst.out]; go_num, E2⟩
     case measure => rw [hrg2.left_eq, hrg.left_eq]; exact hlt
theorem stepsC (F : Nat → Prop) (dg mg : Nat) (D : Dsk) (w : World) (h : DiskAt F w dg mg D) : Calls Tryz.prog 15 #[.pointer (some ⟨dg, 0, none⟩)] w fun e w' => e = .returned (.int .i64 D.steps) ∧ w = w' := by
 obtain ⟨fd, fm, le, sl, ql, h8, h9, h10, h11, h12, Af, cff, kg, Ac, cc, chs, K, hb, h1, h2, h3, h4, h5, h6, h7, h13⟩ := h
 have c1 := bC hb 1
 go_enter Tryz.func15, Tryz.ntmps15
 go_wp2
 go_ret
 exact ⟨rfl, rfl⟩
theorem maxQ (W : World) (a : Int) (h : 0 ≤ a) : (Builtin.max_ #[3, 3] 3 #[.int .i64 a, .int .i64 0]).run Tryz.prog W = .ok (.int .i64 a) W := by
 have e1 : ¬ 0 > a := by omega
 simp [Builtin.max_, Builtin.max2, e1]
theorem newC (F : Nat → Prop) (q : Nat) (hq : q ≤ 1048576) (w : World) (hF : ∀ k, F k → k < w.heap.size) : Calls Tryz.prog 26 #[.int .i64 q] w fun e w' => ∃ dg mg, e = .returned (.pointer (some ⟨dg, 0, none⟩)) ∧ w.heap.size ≤ dg ∧ w.heap.size ≤ mg ∧ DiskAt F w' dg mg ⟨q, 0, 0, [], [], true⟩ ∧ Ext w w' := by
 have hmm := @run_makeMap Tryz.prog
 have hmx := fun W => maxQ W q (by omega)
 have hN1 := NamesAt.made w
 have hN2 := NamesAt.made (w.alloc (.map #[] 0))
 have hE2 := ((Ext.refl w).alloc (.map #[] 0)).alloc (.map #[] 0)
 have hB := bN ((w.alloc (.map #[] 0)).alloc (.map #[] 0)) (.cells (dskCells q 0 none 0 0 w.heap.size (w.heap.size + 1) none 0 0) 104)
 go_enter Tryz.func26, Tryz.ntmps26
 go_wp2
 go_ret
 have hE3 := hE2.alloc (.cells (dskCells q 0 none 0 0 w.heap.size (w.heap.size + 1) none 0 0) 104)
 have hE31 := (((Ext.refl (w.alloc (.map #[] 0))).alloc (.map #[] 0)).alloc (.cells (dskCells q 0 none 0 0 w.heap.size (w.heap.size + 1) none 0 0) 104))
 have hE32 := ((Ext.refl ((w.alloc (.map #[] 0)).alloc (.map #[] 0))).alloc (.cells (dskCells q 0 none 0 0 w.heap.size (w.heap.size + 1) none 0 0) 104))
 rw [World.size_alloc] at hN2
 simp only [World.size_alloc] at hB
 refine ⟨w.heap.size + 1 + 1, w.heap.size, rfl, by omega, Nat.le_refl _, ⟨fun q => by have := hF _ q; omega, fun q => by have := hF _ q; omega, Nat.zero_le _, Nat.le_refl _, hq, (fun p hp => by cases hp), (fun p hp => by cases hp), Nat.le_refl _, Nat.le_refl _, (fun p hp => by cases hp), none, 0, w.heap.size + 1, none, 0, [], [], hB, Rd.Sl.nil0 _ _ _, Rd.Sl.nil0 _ _ _, hN1.ext hE31, hN2.ext hE32, by omega, (fun q => by have := hF _ q; omega), (fun _ => ⟨rfl, rfl⟩), Nat.le_refl _⟩, hE3⟩
end K38
namespace K39
open Go Go.RowKit Go.Maps
open KB KB2 KB3 K1 K6 K7 K29 P5 K33 K34 K35 K36 K37 K38
theorem create1C (F : Nat → Prop) (dg mg : Nat) (D : Dsk) (w : World) (h : DiskAt F w dg mg D) (hl : D.lim + 2 ≤ 100000) (n : ByteArray) (n0 : 0 < n.size) (n1 : n.size ≤ 20) (hne : ¬ n.toList = []) (hM : D.M.length < 200) (hno : getA n D.M = none) (hem : getA emp D.M = none)
   (xb nb : Nat) (hxb : w.heap[xb]? = some (.cells #[.pointer (some ⟨dg, 0, none⟩)] 28 (0, 0))) (hnb : w.heap[nb]? = some (.cells #[.string n] 211 (0, 0))) (hxd : xb ≠ dg) (hnd : nb ≠ dg) (hF : ∀ k, F k → k < w.heap.size) :
   Calls Tryz.prog 137 #[.pointer (some ⟨xb, 0, none⟩), .pointer (some ⟨nb, 0, none⟩)] w fun e w' => e = .returned (.int .i64 0) ∧ DiskAt F w' dg mg { D with lim := D.lim + 2, files := D.files ++ [([], 0)], M := putA n D.files.length D.M, clean := false } ∧ Keep (Two' dg mg) w w' := by
 have hD0 := h
 have hdlt := h.lt
 obtain ⟨fd, fm, le, sl, ql, h8, h9, h10, h11, h12, Af, cff, kg, Ac, cc, chs, K, hb, h1, h2, h3, h4, h5, h6, h7, h13⟩ := h
 have hnm : n.size ≤ maxLen := by unfold maxLen; omega
 have keep : ∀ w', Ext w w' → Ext w w' ∧ w'.cell? ⟨dg, 3, none⟩ = some (.map (some mg)) ∧ w'.cell? ⟨xb, 0, none⟩ = some (.pointer (some ⟨dg, 0, none⟩)) ∧ w'.cell? ⟨nb, 0, none⟩ = some (.string n) ∧ (Instr.lookup 101 (.map (some mg)) (.agg #[.string n]) true).run Tryz.prog w' = .ok (.tuple #[.int .i64 0, .bool false]) w' := fun w' k => ⟨k, k.cell (bC hb 3), k.cell (bC hxb 0), k.cell (bC hnb 0), by have := (h3.ext k).lookRun n hnm; rw [lookVal, hno] at this; exact this⟩
 obtain ⟨_, c3, x0, m0, hlk⟩ := keep w (Ext.refl w)
 go_enter Tryz.func137, Tryz.ntmps137
 go_wp2_with (fail)
 go_region_held3 (fun w' => Ext w w' ∧ w'.cell? ⟨dg, 3, none⟩ = some (.map (some mg)) ∧ w'.cell? ⟨xb, 0, none⟩ = some (.pointer (some ⟨dg, 0, none⟩)) ∧ w'.cell? ⟨nb, 0, none⟩ = some (.string n) ∧ (Instr.lookup 101 (.map (some mg)) (.agg #[.string n]) true).run Tryz.prog w' = .ok (.tuple #[.int .i64 0, .bool false]) w') (((try dsimp only); refine keep _ ?_; first | with_reducible assumption | exact XE)) (fail)
 (try simp only [Exit.inBlock, Exit.then])
 go_wp2_with (fail)
 refine (mayC n n0 n1 _).mono ?_; rintro e w1 ⟨rfl, hE1'⟩
 have hE1 : Ext w w1 := Ext.trans ((Ext.refl w).drew) hE1'
 clear c3 x0 m0 hlk
 obtain ⟨_, c3, x0, m0, _⟩ := keep w1 hE1
 have d200 : decide ((200 : Int) ≤ (D.M.length : Int)) = false := decide_eq_false (by omega)
 go_wp2_with (first | (at_len; refine len_ rfl _ rfl mg D.M rfl (h3.ext hE1) ?_))
 have hb1 := hE1.blk hb
 have z2 := bC hb1 2
 have zf2 := bF hb1 2
 have y2 := bC (bO2 (o' := .cells #[.slice none 0 0, .int .i64 0] 216) hb1) 2
 have y0 := bC (bO2 (o' := .cells #[.slice none 0 0, .int .i64 0] 216) (hE1.blk hxb)) 0
 have hf1 := h1.ext hE1
 have hfl : D.files.length ≤ 100000 := by omega
 have hxE := hE1.blk hxb
 have hnE := hE1.blk hnb
 have hdl := blk_lt hb
 have hml := h3.lt
 go_upto_region 8 with (fail)
 go_cut [] (fun wx => ∃ A3 c3, wx.heap[dg]? = some (.cells (dskCells D.quota D.steps A3 (D.files.length + 1) c3 mg kg Ac (List.length chs) cc) 104 (0, 0)) ∧ rdFile.Sl (DF F dg mg) wx A3 c3 (D.files ++ [(([], 0) : FileM)]) ∧ Keep (fun k => k = dg) w1 wx)
 case first =>
   go_region_law (first | (go_simp; go_at_call 139; refine (clipF rdFile (DF F dg mg) Af cff D.files _ (hf1.ext XE)).mono ?_; rintro e w' ⟨rfl, rfl⟩; dsimp only) | (refine step_clip rfl (.tmp 32) (.tmp 34) 99 rfl rdFile elFile (by rfl) rfl ((Sl_clip hf1).ext XE) (by rfl) (by exact heap_alloc_new _ _) (y := (([], 0) : FileM)) ⟨none, 0, rfl, Rd.Sl.nil0 _ _ _⟩ (by omega) (by unfold maxLen; omega) ?_; intro v' w3 hown3 hE3; have hE13 : Ext w1 w3 := Ext.trans XE hE3; replace hown3 := hown3.lower (Ext.size (w := w1) XE); obtain ⟨A3, c3', rfl, hs3⟩ := hown3.shut (fun k q => by have := hE1.size; rcases q with q | q | q; (· have := hF k q; omega); omega; omega); have s2 := bC (hE13.blk hb1) 2; have sf2 := bF (hE13.blk hb1) 2; have s0 := bC (hE13.blk (hE1.blk hxb)) 0))
   all_goals
     (try simp only [Exit.inBlock, Exit.then])
     go_wp2_with (fail)
     go_meet
     have hll : (D.files ++ [(([], 0) : FileM)]).length = D.files.length + 1 := by simp
     have hb4 := bS (hE13.blk hb1) 2 (.slice A3 (D.files.length + 1) c3')
     have K4 := kS1 w3 dg 2 (.slice A3 (D.files.length + 1) c3')
     exact ⟨A3, c3', hb4, hs3.keep (K4.mono (fun _ _ q => .inr (.inl q))), (hE13.keep _).trans K4⟩
 case rest =>
   obtain ⟨A3, c3', hbw, hsl, kw⟩ := hcut
   rename_i hHeld _ right _ a
   have hxm : ¬ xb = dg := hxd
   have hxw := kw.blk hxd hxE
   have hnw := kw.blk hnd hnE
   have hmd : mg ≠ dg := h3.notCells hb
   have hkd : kg ≠ dg := h4.notCells hb
   have kwd : Keep (DF F dg mg) w1 wc := kw.mono (fun _ _ q => .inr (.inl q))
   have hcle := h2.le
   have hDw : DiskAt F wc dg mg { D with lim := D.lim + 1, files := D.files ++ [([], 0)], clean := false } :=
     ⟨fd, fm, (by show D.lim + 1 ≤ _; omega), (by show D.steps ≤ D.lim + 1; omega), ql, (fun p hp => by have := h8 p hp; simp; omega), h9, (by show (D.files ++ [_]).length ≤ _; simp; omega), Nat.le_succ_of_le h11, (fun f hf => by rcases List.mem_append.1 hf with q | q; (· exact h12 f q); (· rw [List.mem_singleton.1 q]; exact Nat.zero_le _)), A3, c3', kg, Ac, cc, chs, K, by rw [show (D.files ++ [(([], 0) : FileM)]).length = D.files.length + 1 by simp]; exact hbw, hsl, (h2.ext hE1).keep kwd, (h3.ext hE1).keep kw hmd, (h4.ext hE1).keep kw hkd, h5, h6, (fun q => by cases q), Nat.le_succ_of_le h13⟩
   have q2 := bC hbw 2
   have qx := bC hxw 0
   have qn := bC hnw 0
   have hi0 : (0 : Int) ≤ D.files.length := by omega
   have hi1 : (D.files.length : Int) ≤ 100000 := by omega
   have hdE := delA_absent hem
   have hF' : ∀ k, F k → k < wc.heap.size := fun k q => Nat.lt_of_lt_of_le (hF k q) (Nat.le_trans hE1.size kw.size)
   have hturn := fun W (hE : Ext wc W) => turnPutC F dg mg _ W (hDw.ext hE) (by show D.lim + 1 < 100000; omega) emp (by decide) n (by omega) hne D.files.length (by show D.files.length < (D.files ++ [_]).length; simp) (fun p hp _ => by have := h8 p hp; omega) (fun k q => Nat.lt_of_lt_of_le (hF' k q) hE.size)
   rw [show delA emp ({ D with lim := D.lim + 1, files := D.files ++ [([], 0)], clean := false } : Dsk).M = D.M from hdE] at hturn
   have kw' := Keep.pre (kw.mono (G := Two' dg mg) (fun _ _ q => .inl q)) hE1
   clear hDw hsl hb hb1 z2 zf2 y2 y0 hf1 hfl h1 h2 h3 h4 hdE hF c3 x0 m0 hD0 hno hem d200
   clear keep
   have keep : ∀ w', Ext wc w' → Ext wc w' ∧ w'.cell? ⟨dg, 2, none⟩ = some (.slice A3 (D.files.length + 1) c3') ∧ w'.cell? ⟨xb, 0, none⟩ = some (.pointer (some ⟨dg, 0, none⟩)) ∧ w'.cell? ⟨nb, 0, none⟩ = some (.string n) := fun w' k => ⟨k, k.cell q2, k.cell qx, k.cell qn⟩
   clear h7 h8 h9 h12 hHeld right hcle kw hE1'
   have hwr : IntKind.i64.wrap ((D.files.length : Nat) : Int) = (D.files.length : Int) := by rw [IntKind.wrap_i64]; omega
   go_wp2_with (fail)
   go_still_tail 9, (by kernel_rfl)
   change wpList _ _ _ _ _ wc.drew
   have hEd : Ext wc wc.drew := (Ext.refl wc).drew
   generalize wc.drew = wd at *
   go_wp2_with (first | (go_at_call 140; refine (hturn _ hEd).mono ?_; rintro e w5 ⟨rfl, hD5, k5⟩))
   go_wp2
   go_ret
   exact ⟨rfl, hD5, kw'.trans ((hEd.keep _).trans k5)⟩
end K39
namespace K40
open Go Go.RowKit Go.Maps
open KB KB2 KB3 K1 K6 K7 K29 P5 K33 K34 K35 K36 K37 K38 K39
theorem cloneF (F : Nat → Prop) (A : Option Addr) (c : Nat) (l : List FileM) (w : World) (hA : rdFile.Sl F w A c l) (hn : l.length ≤ 100000) (h0 : 0 < l.length) :
   Calls Tryz.prog 149 #[.slice A l.length c] w fun e w' => ∃ g c', e = .returned (.slice (some ⟨g, 0, none⟩) l.length c') ∧ w.heap.size ≤ g ∧ rdFile.Own F w.heap.size 216 w' (.slice (some ⟨g, 0, none⟩) l.length c') l ∧ Ext w w' := by
 rcases A with _ | ad
 · have := hA.nil_ rfl; have := hA.le; omega
 · have hnil : ∀ W n, (binOp .eql 99 (.slice (some ad) n c) (.slice none 0 0)).run Tryz.prog W = .ok (.bool false) W := fun W n => Lib.run_eql_slice_nil W _ _ (some ad) _ _ 0 0 elFile.1
   have hown : rdFile.Own F w.heap.size 216 (w.alloc (.cells #[] 216)) (.slice (some ⟨w.heap.size, 0, none⟩) 0 0) [] := ⟨[], World.ownsRow_made w _ _ (Nat.le_refl _) (by unfold maxLen; omega) (by simp), fun k x h => by simp at h⟩
   have hA1 : rdFile.Sl (Fv F (.slice (some ⟨w.heap.size, 0, none⟩) 0 0)) (w.alloc (.cells #[] 216)) (some ad) c l := Rd.Sl.far (by decide) hA ((Ext.refl w).alloc _) (fun g hg => by simp [Value.ownBlock] at hg; subst hg; simp)
   go_enter Tryz.func149, Tryz.ntmps149
   go_wp2_with (first | (at_builtin; refine wpList_app rfl _ _ _ rfl rdFile elFile rfl hown rfl rfl hA1 (by simp; omega) (by simp [maxLen]; omega) (w0 := w) (by simp) ((Ext.refl w).alloc _) ?_; intro v' w1 hown1 hg1 hE1))
   obtain ⟨g, c', rfl, hb, hlt⟩ := own_some hown1 (by simpa using h0)
   go_ret
   exact ⟨g, c', rfl, hb, hown1, hE1⟩
theorem createC (F : Nat → Prop) (dg mg : Nat) (D : Dsk) (w : World) (h : DiskAt F w dg mg D) (hl : D.lim + 3 ≤ 100000) (n : ByteArray) (n0 : 0 < n.size) (n1 : n.size ≤ 20) (hne : ¬ n.toList = []) (hM : D.M.length < 200) (hno : getA n D.M = none) (hem : getA emp D.M = none) (hF : ∀ k, F k → k < w.heap.size) :
   Calls Tryz.prog 65 #[.pointer (some ⟨dg, 0, none⟩), .string n] w fun e w' => e = .returned (.int .i64 0) ∧ DiskAt F w' dg mg { D with steps := D.steps + 1, lim := D.lim + 3, files := D.files ++ [([], 0)], M := putA n D.files.length D.M, clean := false } ∧ Keep (Two' dg mg) w w' := by
 have hlt := h.lt
 have hx := bN w (.cells #[.pointer (some ⟨dg, 0, none⟩)] 28)
 have hx2 := bO2 (o' := .cells #[.string n] 211) hx
 have hn2 := bN (w.alloc (.cells #[.pointer (some ⟨dg, 0, none⟩)] 28)) (.cells #[.string n] 211)
 have hE := ((Ext.refl w).alloc (.cells #[.pointer (some ⟨dg, 0, none⟩)] 28)).alloc (.cells #[.string n] 211)
 rw [World.size_alloc] at hn2
 have hxd : w.heap.size ≠ dg := by omega
 have hxm : w.heap.size ≠ mg := by omega
 have hnd : w.heap.size + 1 ≠ dg := by omega
 have hnm : w.heap.size + 1 ≠ mg := by omega
 have hsz : ((w.alloc (.cells #[.pointer (some ⟨dg, 0, none⟩)] 28)).alloc (.cells #[.string n] 211)).heap.size = w.heap.size + 2 := by simp
 have hstep := stepC F dg mg D _ (h.ext hE) (by omega) 137 141 #[.pointer (some ⟨w.heap.size, 0, none⟩), .pointer (some ⟨w.heap.size + 1, 0, none⟩)] #[] (fun w' => DiskAt F w' dg mg { D with steps := D.steps + 1, lim := D.lim + 3, files := D.files ++ [([], 0)], M := putA n D.files.length D.M, clean := false } ∧ Keep (Two' dg mg) w w') (fun _ _ => rfl) (fun W hW kW =>
   (create1C F dg mg _ W hW (by show D.lim + 1 + 2 ≤ _; omega) n n0 n1 hne hM hno hem _ _ (kW.blk (by rintro (e | e) <;> omega) hx2) (kW.blk (by rintro (e | e) <;> omega) hn2) hxd hnd (fun k q => Nat.lt_of_lt_of_le (hF k q) (Nat.le_trans hE.size kW.size))).mono fun e w' ⟨h1, h2, h3⟩ => ⟨h1, h2, (hE.keep _).trans (kW.trans h3)⟩)
 go_enter Tryz.func65, Tryz.ntmps65
 go_wp2_with (first | (go_at_call 136; refine hstep.mono ?_; rintro e w1 ⟨rfl, hD1, k1⟩))
 go_wp2
 go_ret
 exact ⟨rfl, hD1, k1⟩
end K40
namespace K41
open Go Go.RowKit Go.Maps
open KB KB2 KB3 K1 K6 K7 K29 P5 K33 K34 K35 K36 K37 K38 K39 K40
theorem slAll {α : Type} {R : Rd α} {F : Nat → Prop} {w : World} {A : Option Addr} {c : Nat} {l : List α} (h : R.Sl F w A c l) {P : Program} {t e : TypeId} {bytes : Nat} (hE : El P t e R.sz bytes) (kh : IntKind) (W : World) : (Instr.slice t (.slice A l.length c) none (some (.int kh l.length)) none).run P W = .ok (.slice A l.length c) W := by
 have hc := h.le
 obtain ⟨hu, i', z, hi', hz, hsz, hb, hzs, hp⟩ := hE
 have hel : P.elem t = e := by unfold Program.elem; rw [hu]
 rw [run_slice_h W t A l.length c (by rw [hel]; exact hu) kh _ (by omega) (by omega)]
 simp [hel, sizeOf, typeInfo, hi', hsz, sliced]
 intro _; cases A <;> simp [Addr.add]
theorem growC (F : Nat → Prop) (dg mg : Nat) (D : Dsk) (w : World) (h : DiskAt F w dg mg D) (n : ByteArray) (hn20 : n.size ≤ 20) (i : Nat) (hi : getA n D.M = some i) (fb : List Int) (fs : Int) (hf : D.files[i]? = some (fb, fs))
   (A : Option Addr) (c : Nat) (b : List Int) (hb : rdU8.Sl (DF F dg mg) w A c b) (hu : used D.fs + b.length ≤ D.quota) (hsum : fb.length + b.length ≤ 10000000) (hF : ∀ k, F k → k < w.heap.size) :
   Calls Tryz.prog 143 #[.pointer (some ⟨dg, 0, none⟩), .string n, .slice A b.length c, .int .i64 b.length] w fun e w' => e = .returned (.int .i64 0) ∧ DiskAt F w' dg mg { D with files := D.files.set i (fb ++ b, fs) } ∧ Keep (Two' dg mg) w w' := by
 have hD0 := h
 have hlt := h.lt
 have hq := h.ql
 have hnm : n.size ≤ maxLen := by unfold maxLen; omega
 obtain ⟨fd, fm, le, sl, ql, h8, h9, h10, h11, h12, Af, cff, kg, Ac, cc, chs, K, hb0, h1, h2, h3, h4, h5, h6, h7, h13⟩ := h
 have hil : i < D.files.length := (List.getElem?_eq_some_iff.1 hf).1
 have hlook := h3.lookRun n hnm
 rw [lookVal, hi] at hlook
 (have p0 := bC (hb0) 0; have pf0 := bF (hb0) 0; have p1 := bC (hb0) 1; have pf1 := bF (hb0) 1; have p2 := bC (hb0) 2; have pf2 := bF (hb0) 2; have p3 := bC (hb0) 3; have pf3 := bF (hb0) 3; have p4 := bC (hb0) 4; have pf4 := bF (hb0) 4; have p5 := bC (hb0) 5; have pf5 := bF (hb0) 5; have p6 := bC (hb0) 6; have pf6 := bF (hb0) 6; have p7 := bC (hb0) 7; have pf7 := bF (hb0) 7; have p8 := bC (hb0) 8; have pf8 := bF (hb0) 8)
 have d0 : decide ((D.quota : Int) < (used D.fs : Int) + b.length) = false := decide_eq_false (by omega)
 have hmd : mg ≠ dg := h3.notCells hb0
 have hkd : kg ≠ dg := h4.notCells hb0
 have hfl0 : (D.files.length : Int) ≤ 100000 := by omega
 have hwu : IntKind.i64.wrap ((used D.fs : Int) + (b.length : Int)) = (used D.fs : Int) + b.length := by rw [IntKind.wrap_i64]; omega
 go_enter Tryz.func143, Tryz.ntmps143
 go_wp2_with (fail)
 have keep : ∀ w', Ext w w' → Ext w w' ∧ w'.cell? ⟨dg, 0, none⟩ = some (.int .i64 D.quota) := fun w' k => ⟨k, k.cell p0⟩
 go_region_held3 (fun w' => Ext w w' ∧ w'.cell? ⟨dg, 0, none⟩ = some (.int .i64 D.quota)) (((try dsimp only); refine keep _ ?_; first | with_reducible assumption | exact XE)) (first | (go_at_call 245; refine (usedC F dg mg D _ (hD0.ext XE) (by omega)).mono ?_; rintro e w1 ⟨rfl, hx1⟩; have hE1 : Ext w w1 := Ext.trans XE hx1))
 (try simp only [Exit.inBlock, Exit.then])
 have h1' := h1.ext hE1
 have t2 := bC (hE1.blk hb0) 2
 go_wp2_with (first | (go_at_call 149; refine (cloneF (DF F dg mg) Af cff D.files _ h1' (by omega) (by omega)).mono ?_; rintro e w2 ⟨g, c', rfl, hg, hown, hE2⟩; have hE02 := Ext.trans hE1 hE2; have q2 := bC (hE02.blk hb0) 2; have qf2 := bF (hE02.blk hb0) 2))
 have hgl := (hown.ge g rfl).2
 have hgs : w.heap.size ≤ g := Nat.le_trans hE1.size hg
 have hbv := Rd.Sl.far (by decide) hb hE02 (v := .slice (some ⟨g, 0, none⟩) D.files.length c') (fun k hk => by cases hk; exact ⟨hgs, hgl⟩)
 have hb3 := bS (hE02.blk hb0) 2 (.slice (some ⟨g, 0, none⟩) D.files.length c')
 have K3 := kS1 w2 dg 2 (.slice (some ⟨g, 0, none⟩) D.files.length c')
 have kd3 : Keep (DF F dg mg) w2 (w2.setCell ⟨dg, 2, none⟩ (.slice (some ⟨g, 0, none⟩) D.files.length c')) := K3.mono (fun _ _ q => .inr (.inl q))
 have hnF : ¬ DF F dg mg g := fun q => by rcases q with q | q | q; (· have := hF g q; omega); omega; omega
 have hgd : ¬ g = dg := by omega
 have hown3 := hown.keep kd3 (fun k hk => by cases hk; exact hnF) (fun k hk => by cases hk; exact K3.block g hgl hgd)
 have hbv3 := hbv.keep (K3.mono (fun _ _ q => .inl (.inr (.inl q))))
 have hsz3 := K3.size
 have hw2l : g < w2.heap.size := hgl
 generalize (w2.setCell ⟨dg, 2, none⟩ (.slice (some ⟨g, 0, none⟩) D.files.length c')) = w3 at *
 have hb4 : w3.heap[dg]? = some (.cells (dskCells D.quota D.steps (some ⟨g, 0, none⟩) D.files.length c' mg kg Ac (List.length chs) cc) 104 (0, 0)) := hb3
 clear hb3
 obtain ⟨cs, hcs, hcel, hfro⟩ := hown3.cellj hil
 rw [(List.getElem?_eq_some_iff.1 hf).2] at hcs
 obtain ⟨A2, c2, rfl, hfb⟩ := hcs
 have r0 : w3.cell? ⟨g, i * 2, none⟩ = some (.slice A2 fb.length c2) := hcel 0 _ rfl
 have rf0 : w3.frozen? ⟨g, i * 2, none⟩ = false := hfro _
 have r2 := bC hb4 2
 have hsl := fun W => slAll hbv3 (P := Tryz.prog) elU8 .i64 W
 clear p0 pf0 p1 pf1 p2 pf2 p3 pf3 p4 pf4 p5 pf5 p6 pf6 p7 pf7 p8 pf8
 clear q2 qf2 hlook keep t2
 go_wp2_with (fail)
 have HFv : ∀ k, Fv (DF F dg mg) (.slice (some ⟨g, 0, none⟩) D.files.length c') k → k < w3.heap.size := fun k q => by
   have hs3 : w.heap.size ≤ w3.heap.size := Nat.le_trans hE02.size hsz3
   rcases q with q | q
   · rcases q with q | q | q
     · have := hF k q; omega
     · omega
     · omega
   · have e : g = k := by cases q; rfl
     omega
 have hg3 : g < w3.heap.size := HFv g (.inr rfl)
 have y2 := bC (bO2 (o' := .cells #[.slice A2 fb.length c2, .slice A b.length c] 120) hb4) 2
 have hlit : (rdSl rdU8 Nat.one_pos).Sl (Fv (DF F dg mg) (.slice (some ⟨g, 0, none⟩) D.files.length c')) (w3.alloc (.cells #[.slice A2 fb.length c2, .slice A b.length c] 120)) (some ⟨w3.heap.size, 0, none⟩) 2 [fb, b] := lit2 (heap_alloc_new _ _) (fun q => Nat.lt_irrefl _ (HFv _ q)) (hfb.ext ((Ext.refl w3).alloc _)) rfl (hbv3.ext ((Ext.refl w3).alloc _)) rfl
 have hcat := fun W (hW : Ext (w3.alloc (.cells #[.slice A2 fb.length c2, .slice A b.length c] 120)) W) => concatB (Fv (DF F dg mg) (.slice (some ⟨g, 0, none⟩) D.files.length c')) _ _ [fb, b] (fb ++ b) (by simp) W (hlit.ext hW) (by simp) (by simp; omega) (FExt HFv (Ext.trans ((Ext.refl w3).alloc _) hW))
 have hlen : (fb ++ b).length = fb.length + b.length := by simp
 generalize hcb : fb ++ b = fbb at *
 replace hlen := As.mk hlen
 have hfin : ∀ w5 A5 c5, w5.heap[dg]? = some (.cells (dskCells D.quota D.steps A5 D.files.length c5 mg kg Ac (List.length chs) cc) 104 (0, 0)) → rdFile.Sl (DF F dg mg) w5 A5 c5 (D.files.set i (fbb, fs)) → Keep (fun k => k = g) w3 w5 → DiskAt F w5 dg mg { D with files := D.files.set i (fbb, fs) } ∧ Keep (Two' dg mg) w w5 := by
   intro w5 A5 c5 hb5 hs5 k5
   have kv5 : Keep (Fv (DF F dg mg) (.slice (some ⟨g, 0, none⟩) D.files.length c')) w3 w5 := k5.mono (fun k _ q => .inr (by rw [q]; rfl))
   have e2 := ((Rd.Sl.far (by decide) h2 hE02 (v := .slice (some ⟨g, 0, none⟩) D.files.length c') (fun k hk => by cases hk; exact ⟨hgs, hgl⟩)).keep (K3.mono (fun _ _ q => .inl (.inr (.inl q))))).keep kv5
   have e3 := (((h3.ext hE02).keep K3 hmd).keep k5 (by omega))
   have hkl := h4.lt
   have e4 := (((h4.ext hE02).keep K3 hkd).keep k5 (by omega))
   refine ⟨⟨fd, fm, le, sl, ql, (fun p hp => by rw [List.length_set]; exact h8 p hp), h9, (by rw [List.length_set]; exact h10), h11, (fun f hf' => by rcases List.mem_or_eq_of_mem_set hf' with q | q; (· exact h12 f q); (· rw [q]; have := hlen.out; show fbb.length ≤ _; omega)), A5, c5, kg, Ac, cc, chs, K, by rw [List.length_set]; exact hb5, hs5, e2.narrow (by decide) (fun _ _ q => .inl q), e3, e4, h5, h6, h7, h13⟩, ?_⟩
   exact (((hE02.keep _).trans K3).or k5).mono (fun k hk q => by rcases q with q | q; (· exact .inl q); (· omega))
 clear hD0 h1 h2 h3 h4 h7 h8 h9 h12 hi h1' hown hcel hfro
 go_region_law (first | (go_simp; go_at_call 133; refine (hcat _ (Ext.drew (Ext.refl _))).mono ?_; rintro e w4 ⟨A4, c4, rfl, h4s, hE4⟩; have hE34 : Ext w3 w4 := Ext.trans XE hE4; have s0 := hE34.cell r0; have sf0 := hE34.froz hg3 rf0; have s2 := hE34.cell r2; dsimp only))
 all_goals
   (try simp only [Exit.inBlock, Exit.then])
   go_wp2
   go_ret
   have hs5 := (hown3.ext hE34).setj (i := i) (j := 0) hil (by decide) (u := .slice A4 fbb.length c4) (y := (fbb, fs)) (fun cs hcs => by have e9 := hcs; rw [(List.getElem?_eq_some_iff.1 hf).2] at e9; obtain ⟨A9, c9, rfl, _⟩ := e9; exact ⟨A4, c4, rfl, h4s⟩)
   obtain ⟨A5, c5, e5, hs5⟩ := hs5.shut (fun k q => by rcases q with q | q | q; (· have := hF k q; have := hE1.size; omega); (· have := hE1.size; omega); (· have := hE1.size; omega))
   rw [List.length_set] at e5
   cases e5
   have K5 := kS1 w4 g (i * 2) (.slice A4 fbb.length c4)
   obtain ⟨hd5, k5⟩ := hfin _ _ _ (K5.blk (fun q => hgd q.symm) (hE34.blk hb4)) hs5 ((hE34.keep _).trans K5)
   subst hcb
   exact ⟨rfl, hd5, k5⟩
end K41
namespace K42
open Go Go.RowKit Go.Maps
open KB KB2 KB3 K1 K6 K7 K29 P5 K33 K34 K35 K36 K37 K38 K39 K40 K41
abbrev BX (a : Nat) : Value := .pointer (some ⟨a, 0, none⟩)
theorem append1C (F : Nat → Prop) (dg mg : Nat) (D : Dsk) (w : World) (h : DiskAt F w dg mg D) (n : ByteArray) (hn20 : n.size ≤ 20) (i : Nat) (hi : getA n D.M = some i) (fb : List Int) (fs : Int) (hf : D.files[i]? = some (fb, fs))
   (A : Option Addr) (c : Nat) (b : List Int) (hb : rdU8.Sl (DF F dg mg) w A c b) (hu : used D.fs + b.length ≤ D.quota) (hsum : fb.length + b.length ≤ 10000000) (xb nb bb : Nat) (hxb : w.heap[xb]? = some (.cells #[BX dg] 28 (0, 0))) (hnb : w.heap[nb]? = some (.cells #[.string n] 9 (0, 0))) (hbb : w.heap[bb]? = some (.cells #[.slice A b.length c] 120 (0, 0))) (hF : ∀ k, F k → k < w.heap.size) :
   Calls Tryz.prog 142 #[BX xb, BX nb, BX bb] w fun e w' => e = .returned (.int .i64 0) ∧ DiskAt F w' dg mg { D with files := D.files.set i (fb ++ b, fs) } ∧ Keep (Two' dg mg) w w' := by
 have hg := fun W (hE : Ext w W) => growC F dg mg D W (h.ext hE) n hn20 i hi fb fs hf A c b (hb.ext hE) hu hsum (FExt hF hE)
 have hq := h.ql
 have x0 := bC hxb 0
 have n0 := bC hnb 0
 have b0 := bC hbb 0
 clear hi hf h
 go_enter Tryz.func142, Tryz.ntmps142
 go_wp2_with (fail)
 refine (hg _ (Ext.refl w)).mono ?_; rintro e w1 ⟨rfl, hD1, k1⟩
 go_wp2
 go_ret
 exact ⟨rfl, hD1, k1⟩
theorem appendC (F : Nat → Prop) (dg mg : Nat) (D : Dsk) (w : World) (h : DiskAt F w dg mg D) (hl : D.lim + 1 ≤ 100000) (n : ByteArray) (hn20 : n.size ≤ 20) (i : Nat) (hi : getA n D.M = some i) (fb : List Int) (fs : Int) (hf : D.files[i]? = some (fb, fs))
   (A : Option Addr) (c : Nat) (b : List Int) (hb : rdU8.Sl (DF F dg mg) w A c b) (hu : used D.fs + b.length ≤ D.quota) (hsum : fb.length + b.length ≤ 10000000) (hF : ∀ k, F k → k < w.heap.size) :
   Calls Tryz.prog 66 #[BX dg, .string n, .slice A b.length c] w fun e w' => e = .returned (.int .i64 0) ∧ DiskAt F w' dg mg { D with steps := D.steps + 1, lim := D.lim + 1, files := D.files.set i (fb ++ b, fs) } ∧ Keep (Two' dg mg) w w' := by
 have hlt := h.lt
 have hx0 := bN w (.cells #[BX dg] 28)
 have hx1 := bO2 (o' := .cells #[.string n] 9) hx0
 have hx := bO2 (o' := .cells #[.slice A b.length c] 120) hx1
 have hn1 := bN (w.alloc (.cells #[BX dg] 28)) (.cells #[.string n] 9)
 have hn := bO2 (o' := .cells #[.slice A b.length c] 120) hn1
 have hbb := bN ((w.alloc (.cells #[BX dg] 28)).alloc (.cells #[.string n] 9)) (.cells #[.slice A b.length c] 120)
 have hE := (((Ext.refl w).alloc (.cells #[BX dg] 28)).alloc (.cells #[.string n] 9)).alloc (.cells #[.slice A b.length c] 120)
 simp only [World.size_alloc] at hn hbb
 clear hx0 hx1 hn1
 have hstep := stepC F dg mg D _ (h.ext hE) (by omega) 142 144 #[BX w.heap.size, BX (w.heap.size + 1), BX (w.heap.size + 1 + 1)] #[BX w.heap.size, BX (w.heap.size + 1), BX (w.heap.size + 1 + 1)] (fun w' => DiskAt F w' dg mg { D with steps := D.steps + 1, lim := D.lim + 1, files := D.files.set i (fb ++ b, fs) } ∧ Keep (Two' dg mg) w w') (fun _ _ => rfl) (fun W hW kW =>
   (append1C F dg mg _ W hW n hn20 i hi fb fs hf A c b ((hb.ext hE).keep (kW.mono (fun _ _ q => .inr q))) hu hsum _ _ _ (kW.blk (by rintro (e | e) <;> omega) hx) (kW.blk (by rintro (e | e) <;> omega) hn) (kW.blk (by rintro (e | e) <;> omega) hbb) (fun k q => Nat.lt_of_lt_of_le (hF k q) (Nat.le_trans hE.size kW.size))).mono fun e w' ⟨h1, h2, h3⟩ => ⟨h1, h2, (hE.keep _).trans (kW.trans h3)⟩)
 clear hi hf
 go_enter Tryz.func66, Tryz.ntmps66
 go_wp2_with (first | (go_at_call 136; refine hstep.mono ?_; rintro e w1 ⟨rfl, hD1, k1⟩))
 go_wp2
 go_ret
 exact ⟨rfl, hD1, k1⟩
end K42
end Go.Proofs.YtbjeejimedhniaaGreatDoor
