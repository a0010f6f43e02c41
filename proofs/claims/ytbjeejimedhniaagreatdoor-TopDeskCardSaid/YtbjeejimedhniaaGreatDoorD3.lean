/- Contracts of the program's functions, as the walks of the law use them. -/
import Derived.Test.YtbjeejimedhniaaGreatDoorD1
import Derived.Outline
import Derived.BigRegion
import Derived.RegionTactic
import Derived.StillTailTactics
set_option linter.unusedVariables false
set_option linter.unusedSimpArgs false
set_option maxRecDepth 100000
set_option maxHeartbeats 2000000
namespace Go.Proofs.YtbjeejimedhniaaGreatDoor
namespace K3
open Go Go.RowKit
open KB K1 K2
def cmpL : List Int → Row → Row → Int
 | t :: ts, x :: xs, y :: ys => if cmpV t x y = 0 then cmpL ts xs ys else cmpV t x y
 | _, _, _ => 0
def cmpS (s : Sch) (a b : Row) : Int := cmpL (s.types.take s.keys) a b
def KeyOk (ts : List Int) (a : Row) : Prop := ts.length ≤ a.length ∧ ∀ i (h : i < ts.length) (h' : i < a.length), ValOk ts[i] a[i]
theorem min4 (W : World) (a b c d : Int) (h1 : a ≤ b) (h2 : a ≤ c) (h3 : a ≤ d) : (Builtin.min_ #[3, 3, 3, 3] 3 #[.int .i64 a, .int .i64 b, .int .i64 c, .int .i64 d]).run Tryz.prog W = .ok (.int .i64 a) W := by
 have e1 : ¬ b < a := by omega
 have e2 : ¬ c < a := by omega
 have e3 : ¬ d < a := by omega
 simp [Builtin.min_, Builtin.min2, e1, e2, e3]
theorem max2 (W : World) (a : Int) (h : 0 ≤ a) : (Builtin.max_ #[3, 3] 3 #[.int .i64 a, .int .i64 0]).run Tryz.prog W = .ok (.int .i64 a) W := by
 have e1 : ¬ 0 > a := by omega
 simp [Builtin.max_, Builtin.max2, e1]
theorem cmpL_at (ts : List Int) (a b : Row) : ∀ k (h1 : k < ts.length) (h2 : k < a.length) (h3 : k < b.length), cmpL (ts.drop k) (a.drop k) (b.drop k) = if cmpV ts[k] a[k] b[k] = 0 then cmpL (ts.drop (k + 1)) (a.drop (k + 1)) (b.drop (k + 1)) else cmpV ts[k] a[k] b[k] := by
 intro k h1 h2 h3
 rw [List.drop_eq_getElem_cons h1, List.drop_eq_getElem_cons h2, List.drop_eq_getElem_cons h3, cmpL]
theorem compareS (F : Nat → Prop) (A : Option Addr) (c : Nat) (s : Sch) (Aa Ab : Option Addr) (ca cb : Nat) (a b : Row) (w : World) (hA : SchAt F w A c s) (hs : s.Ok) (ha : rdVal.Sl F w Aa ca a) (hb : rdVal.Sl F w Ab cb b)
   (oa : KeyOk (s.types.take s.keys) a) (ob : KeyOk (s.types.take s.keys) b) :
   Calls Tryz.prog 52 #[schV A c s, .slice Aa a.length ca, .slice Ab b.length cb] w fun e w' => e = .returned (.int .i64 (cmpS s a b)) ∧ Ext w w' := by
 have hk := hs.k2
 have hk1 := hs.k1
 have hn := hs.n2
 have hle := hA.le
 have hla := oa.1
 have hlb := ob.1
 rw [List.length_take, Nat.min_eq_left hk] at hla hlb
 have hmin : ∀ W, (Builtin.min_ #[3, 3, 3, 3] 3 #[.int .i64 s.keys, .int .i64 s.types.length, .int .i64 a.length, .int .i64 b.length]).run Tryz.prog W = .ok (.int .i64 s.keys) W := fun W => min4 W _ _ _ _ (by omega) (by omega) (by omega)
 have hmax : ∀ W, (Builtin.max_ #[3, 3] 3 #[.int .i64 s.keys, .int .i64 0]).run Tryz.prog W = .ok (.int .i64 s.keys) W := fun W => max2 W _ (by omega)
 go_enter Tryz.func52, Tryz.ntmps52
 go_wp2_with (fail)
 go_loopw [6, 7, 8, 9, 25] (fun _ _ _ _ i wr => ∃ k : Nat, i = .int .i64 k ∧ k ≤ s.keys ∧ Ext w wr ∧ cmpS s a b = cmpL ((s.types.take s.keys).drop k) (a.drop k) (b.drop k)) (fun _ _ _ _ i _ => s.keys - (intOf i).toNat)
 case atStart => exact ⟨0, by go_num, Nat.zero_le _, (Ext.refl w).alloc _, rfl⟩
 case round =>
   obtain ⟨k, rfl, hkl, hE, hc⟩ := hrel
   by_cases hlt : k < s.keys
   · obtain ⟨b0, o0, rfl, ht⟩ := int_get (hA.ext hE) (k := k) (by omega)
     obtain ⟨b1, o1, rfl, a0, a1⟩ := val_get (ha.ext hE) (k := k) (by omega)
     obtain ⟨b2, o2, rfl, c0, c1⟩ := val_get (hb.ext hE) (k := k) (by omega)
     have htk : (s.types.take s.keys).length = s.keys := by rw [List.length_take]; omega
     have va := oa.2 k (by omega) (by omega)
     have vb := ob.2 k (by omega) (by omega)
     have hcc := cmpL_at (s.types.take s.keys) a b k (by omega) (by omega) (by omega)
     rw [List.getElem_take] at va vb hcc
     have i1 : (0 : Int) ≤ (k : Int) := by omega
     have i2 : (k : Int) < (a.length : Int) := by omega
     have i3 : (k : Int) < (b.length : Int) := by omega
     have HC := As.mk hc
     have HCC := As.mk hcc
     clear hc hcc hmin hmax
     go_wp2_with (fail)
     clear ht
     go_region_held3 (fun w' => Ext w w' ∧ w'.cell? ⟨b1, o1 + k * 2, none⟩ = some (.int .i64 a[k].1) ∧ w'.cell? ⟨b1, o1 + k * 2 + 1, none⟩ = some (.string a[k].2) ∧ w'.cell? ⟨b2, o2 + k * 2, none⟩ = some (.int .i64 b[k].1) ∧ w'.cell? ⟨b2, o2 + k * 2 + 1, none⟩ = some (.string b[k].2))
       (((try dsimp only); go_split_ands; (repeat' with_reducible apply And.intro) <;> first | with_reducible assumption | ((repeat (first | with_reducible refine Ext.drew ?_ | with_reducible refine Ext.drewN ?_ _ | with_reducible refine Ext.alloc ?_ _)); first | with_reducible assumption | with_reducible exact Ext.refl _ | with_reducible exact Ext.trans (by with_reducible assumption) (by with_reducible assumption)) | (with_reducible exact Ext.cell (by with_reducible assumption) (by with_reducible assumption)) | (go_keep; done)))
       (first | (go_at_call 119; refine (compareV _ a[k] b[k] va vb _).mono ?_; rintro e w1 ⟨rfl, hb⟩))
     by_cases hz : cmpV s.types[k] a[k] b[k] = 0
     · rw [hz]
       go_wp2
       go_roundw
       case rel => exact ⟨k + 1, by go_num, by omega, by go_split_ands; assumption, by rw [HC.out, HCC.out, if_pos hz]⟩
       case measure => simp [intOf]; omega
     · have hz1 : decide (cmpV s.types[k] a[k] b[k] = 0) = false := decide_eq_false hz
       go_wp2
       go_ret
       exact ⟨by rw [HC.out, HCC.out, if_neg hz]; rfl, by go_split_ands; assumption⟩
   · obtain rfl : k = s.keys := by omega
     have e0 : (s.types.take s.keys).drop s.keys = [] := List.drop_of_length_le (by rw [List.length_take]; omega)
     rw [e0] at hc
     go_wp2
     go_ret
     exact ⟨by rw [hc]; rfl, hE⟩
structure RowOk (s : Sch) (r : Row) : Prop where
 len : r.length = s.types.length
 val : ∀ i (h : i < s.types.length) (h' : i < r.length), ValOk s.types[i] r[i]
theorem RowOk.key {s : Sch} {r : Row} (h : RowOk s r) : KeyOk (s.types.take s.keys) r :=
 ⟨by rw [List.length_take, h.len]; omega, fun i h1 h2 => by rw [List.getElem_take]; exact h.val i (by rw [List.length_take] at h1; omega) h2⟩
theorem eqFits (F : Nat → Prop) (A : Option Addr) (c : Nat) (s : Sch) (Ar : Option Addr) (cr : Nat) (r : Row) (w : World) (hA : SchAt F w A c s) (hr : rdVal.Sl F w Ar cr r) (ho : RowOk s r) (hn : s.types.length ≤ 64) :
   Calls Tryz.prog 123 #[.slice A s.types.length c, .slice Ar r.length cr, .func (.func 124) #[] #[]] w fun e w' => e = .returned (.bool true) ∧ Ext w w' := by
 have hl := ho.len
 have h0 : ((s.types.length : Int) != (s.types.length : Int)) = false := by simp
 rw [hl]
 go_enter Tryz.func123, Tryz.ntmps123
 go_wp2_with (fail)
 go_loopw [7, 8, 9, 17] (fun _ _ _ i wr => ∃ k : Nat, i = .int .i64 k ∧ k ≤ s.types.length ∧ Ext w wr) (fun _ _ _ i _ => s.types.length - (intOf i).toNat)
 case atStart => exact ⟨0, by go_num, Nat.zero_le _, Ext.refl w⟩
 case round =>
   obtain ⟨k, rfl, hkl, hE⟩ := hrel
   by_cases hlt : k < s.types.length
   · obtain ⟨b0, o0, rfl, ht⟩ := int_get (hA.ext hE) hlt
     obtain ⟨b1, o1, rfl, a0, a1⟩ := val_get (hr.ext hE) (k := k) (by omega)
     have va := ho.val k hlt (by omega)
     go_wp2_with (fail)
     refine (fits _ _ va _).mono ?_; rintro e w1 ⟨rfl, hb⟩
     go_wp2
     go_roundw
     case rel => exact ⟨k + 1, by go_num, by omega, (hE.alloc _).trans hb⟩
     case measure => simp [intOf]; omega
   · go_wp2
     go_ret
     exact ⟨rfl, hE⟩
theorem rowC (F : Nat → Prop) (A : Option Addr) (c : Nat) (s : Sch) (Ar : Option Addr) (cr : Nat) (r : Row) (w : World) (hA : SchAt F w A c s) (hr : rdVal.Sl F w Ar cr r) (ho : RowOk s r) (hn : s.types.length ≤ 64) :
   Calls Tryz.prog 60 #[schV A c s, .slice Ar r.length cr] w fun e w' => e = .returned (.bool true) ∧ Ext w w' := by
 go_enter Tryz.func60, Tryz.ntmps60
 go_wp2_with (fail)
 refine (eqFits F A c s Ar cr r _ (hA.ext ((Ext.refl w).alloc _)) (hr.ext ((Ext.refl w).alloc _)) ho hn).mono ?_; rintro e w1 ⟨rfl, hb⟩
 go_wp2
 go_ret
 exact ⟨rfl, ((Ext.refl w).alloc _).trans hb⟩
def SchBox (F : Nat → Prop) (w : World) (sb : Nat) (A : Option Addr) (c : Nat) (s : Sch) : Prop :=
 w.heap[sb]? = some (.cells #[.slice A s.types.length c, .int .i64 s.keys, .int .i64 s.mode, .int .i64 s.grain] 27 (0, 0)) ∧ SchAt F w A c s
theorem SchBox.ext {F : Nat → Prop} {w w' : World} {sb : Nat} {A : Option Addr} {c : Nat} {s : Sch} (h : SchBox F w sb A c s) (k : Ext w w') : SchBox F w' sb A c s := ⟨k.blk h.1, Rd.Sl.ext h.2 k⟩
theorem SchBox.new {F : Nat → Prop} {w : World} {A : Option Addr} {c : Nat} {s : Sch} (h : SchAt F w A c s) : SchBox F (w.alloc (.cells #[.slice A s.types.length c, .int .i64 s.keys, .int .i64 s.mode, .int .i64 s.grain] 27)) w.heap.size A c s :=
 ⟨bN _ _, Rd.Sl.ext h ((Ext.refl w).alloc _)⟩
theorem oddBatch (F : Nat → Prop) (sb : Nat) (A : Option Addr) (c : Nat) (s : Sch) (Ar : Option Addr) (cr : Nat) (r : Row) (w : World) (hB : SchBox F w sb A c s) (hr : rdVal.Sl F w Ar cr r) (ho : RowOk s r) (hn : s.types.length ≤ 64) :
   Calls Tryz.prog 59 #[.slice Ar r.length cr, .pointer (some ⟨sb, 0, none⟩)] w fun e w' => e = .returned (.bool false) ∧ Ext w w' := by
 have c0 := bC hB.1 0
 have c1 := bC hB.1 1
 have c2 := bC hB.1 2
 have c3 := bC hB.1 3
 go_enter Tryz.func59, Tryz.ntmps59
 go_wp2_with (fail)
 refine (rowC F A c s Ar cr r _ hB.2 hr ho hn).mono ?_; rintro e w1 ⟨rfl, hb⟩
 go_wp2
 go_ret
 exact ⟨rfl, hb⟩
theorem oddWrite (F : Nat → Prop) (sb : Nat) (A : Option Addr) (c : Nat) (s : Sch) (Ar : Option Addr) (cr : Nat) (r : Row) (w : World) (hB : SchBox F w sb A c s) (hr : rdVal.Sl F w Ar cr r) (ho : RowOk s r) (hn : s.types.length ≤ 64) :
   Calls Tryz.prog 127 #[.slice Ar r.length cr, .pointer (some ⟨sb, 0, none⟩)] w fun e w' => e = .returned (.bool false) ∧ Ext w w' := by
 have c0 := bC hB.1 0
 have c1 := bC hB.1 1
 have c2 := bC hB.1 2
 have c3 := bC hB.1 3
 go_enter Tryz.func127, Tryz.ntmps127
 go_wp2_with (fail)
 refine (rowC F A c s Ar cr r _ hB.2 hr ho hn).mono ?_; rintro e w1 ⟨rfl, hb⟩
 go_wp2
 go_ret
 exact ⟨rfl, hb⟩
theorem idxRow (F : Nat → Prop) (A : Option Addr) (c : Nat) (l : List Row) (fn : Nat) (caps : Array Value) (w : World) (hA : rdRow.Sl F w A c l) (hn : l.length ≤ 1000000) (hen : IsFn fn)
   (hf : ∀ W k (hk : k < l.length) A2 c2, Ext w W → rdVal.Sl F W A2 c2 l[k] → Calls Tryz.prog fn (#[.slice A2 l[k].length c2] ++ caps) W fun e w' => e = .returned (.bool false) ∧ Ext W w') :
   Calls Tryz.prog 125 #[.slice A l.length c, .func (.func fn) #[] caps] w fun e w' => e = .returned (.int .i64 (-1)) ∧ Ext w w' := by
 go_enter Tryz.func125, Tryz.ntmps125
 go_wp2_with (fail)
 go_loopw [5, 8] (fun _ i wr => ∃ k : Nat, i = .int .i64 k ∧ k ≤ l.length ∧ Ext w wr) (fun _ i _ => l.length - (intOf i).toNat)
 case atStart => exact ⟨0, by go_num, Nat.zero_le _, Ext.refl _⟩
 case round =>
   obtain ⟨k, rfl, hkl, hE⟩ := hrel
   by_cases hlt : k < l.length
   · obtain ⟨b, o, A2, c2, rfl, hc, hs⟩ := sl_get (hA.ext hE) hlt
     have hent := hen (#[.slice A2 l[k].length c2] ++ caps)
     go_wp2_with (fail)
     refine (hf wr k hlt A2 c2 hE hs).mono ?_; rintro e w1 ⟨rfl, hb⟩
     go_wp2
     go_roundw
     case rel => exact ⟨k + 1, by go_num, by omega, hE.trans hb⟩
     case measure => simp [intOf]; omega
   · go_wp2
     go_ret
     exact ⟨rfl, hE⟩
theorem hasRow (F : Nat → Prop) (A : Option Addr) (c : Nat) (l : List Row) (fn : Nat) (caps : Array Value) (w : World) (hA : rdRow.Sl F w A c l) (hn : l.length ≤ 1000000) (hen : IsFn fn)
   (hf : ∀ W k (hk : k < l.length) A2 c2, Ext w W → rdVal.Sl F W A2 c2 l[k] → Calls Tryz.prog fn (#[.slice A2 l[k].length c2] ++ caps) W fun e w' => e = .returned (.bool false) ∧ Ext W w') :
   Calls Tryz.prog 62 #[.slice A l.length c, .func (.func fn) #[] caps] w fun e w' => e = .returned (.bool false) ∧ Ext w w' := by
 go_enter Tryz.func62, Tryz.ntmps62
 go_wp2_with (fail)
 refine (idxRow F A c l fn caps w hA hn hen hf).mono ?_; rintro e w1 ⟨rfl, hb⟩
 go_wp2
 go_ret
 exact ⟨rfl, hb⟩
theorem batchC (F : Nat → Prop) (A : Option Addr) (c : Nat) (s : Sch) (Al : Option Addr) (cl : Nat) (l : List Row) (w : World) (hA : SchAt F w A c s) (hl : rdRow.Sl F w Al cl l) (ho : ∀ r ∈ l, RowOk s r) (hn : s.types.length ≤ 64) (h1 : 1 ≤ l.length) (h2 : l.length ≤ 64) :
   Calls Tryz.prog 28 #[schV A c s, .slice Al l.length cl] w fun e w' => e = .returned (.int .i64 0) ∧ Ext w w' := by
 have hB := SchBox.new hA
 go_enter Tryz.func28, Tryz.ntmps28
 go_wp2_with (fail)
 refine (within _ _ _ _).mono ?_; rintro e w1 ⟨rfl, rfl⟩
 rw [decide_eq_true (by omega)]
 go_wp2_with (fail)
 refine (hasRow F Al cl l 59 #[.pointer (some ⟨w.heap.size, 0, none⟩)] _ (hl.ext ((Ext.refl w).alloc _)) (by omega) (fun _ _ => rfl) (fun W k hk A2 c2 hW hs => oddBatch F _ A c s A2 c2 _ W (SchBox.ext hB hW) hs (ho _ (List.getElem_mem hk)) hn)).mono ?_; rintro e w2 ⟨rfl, hb⟩
 go_wp2
 go_ret
 exact ⟨rfl, ((Ext.refl w).alloc _).trans hb⟩
end K3
namespace K4
open Go Go.RowKit
open KB K1 K2 K3
theorem getD_at {l : List Row} {i : Nat} (h : i < l.length) : l.getD i [] = l[i] := by simp [List.getD, h]
def swap (l : List Row) (i j : Nat) : List Row := (l.set i (l.getD j [])).set j (l.getD i [])
theorem swap_length (l : List Row) (i j : Nat) : (swap l i j).length = l.length := by simp [swap]
def insDown (cmp : Row → Row → Int) (a : Nat) : Nat → List Row → List Row
 | 0, l => l
 | j + 1, l => if a < j + 1 ∧ cmp (l.getD (j + 1) []) (l.getD j []) < 0 then insDown cmp a j (swap l (j + 1) j) else l
theorem insDown_length (cmp : Row → Row → Int) (a j : Nat) : ∀ l, (insDown cmp a j l).length = l.length := by
 induction j with
 | zero => intro l; rfl
 | succ j ih => intro l; rw [insDown]; split; · rw [ih, swap_length]
                · rfl
theorem swap_mem {l : List Row} {i j : Nat} (hi : i < l.length) (hj : j < l.length) : ∀ r ∈ swap l i j, r ∈ l := by
 intro r hr
 rcases List.mem_or_eq_of_mem_set hr with hr | rfl
 · rcases List.mem_or_eq_of_mem_set hr with hr | rfl
   · exact hr
   · simp [List.getD, hj]
 · simp [List.getD, hi]
theorem row_own {F : Nat → Prop} {w : World} {g n cap i B : Nat} {l : List Row} (h : rdRow.Own F B 41 w (.slice (some ⟨g, 0, none⟩) n cap) l) (hi : i < l.length) :
   ∃ A c, w.cell? ⟨g, i, none⟩ = some (.slice A l[i].length c) ∧ w.frozen? ⟨g, i, none⟩ = false ∧ rdVal.Sl (Fv F (.slice (some ⟨g, 0, none⟩) n cap)) w A c l[i] := by
 obtain ⟨u, h1, h2, A, c, he, hs⟩ := h.get1 rfl hi
 injection he with he _
 subst he
 exact ⟨A, c, h1, h2, hs⟩
theorem range'_step {k b : Nat} (h : k < b) : List.range' k (b - k) = k :: List.range' (k + 1) (b - (k + 1)) := by
 rw [show b - k = (b - (k + 1)) + 1 by omega, List.range'_succ]
def insSort (cmp : Row → Row → Int) (a b : Nat) (l : List Row) : List Row := (List.range' (a + 1) (b - (a + 1))).foldl (fun l i => insDown cmp a i l) l
theorem insC (F : Nat → Prop) (B g cap : Nat) (l : List Row) (a b : Nat) (fn : Nat) (caps : Array Value) (cmp : Row → Row → Int) (P : Row → Prop) (I : World → Prop) (w : World)
   (hO : rdRow.Own F B 41 w (.slice (some ⟨g, 0, none⟩) l.length cap) l) (hI : I w) (hIk : ∀ W W', I W → Keep (fun k => k = g) W W' → I W')
   (hf : ∀ W r1 r2 A1 c1 A2 c2, I W → P r1 → P r2 → rdVal.Sl (Fv F (.slice (some ⟨g, 0, none⟩) l.length cap)) W A1 c1 r1 → rdVal.Sl (Fv F (.slice (some ⟨g, 0, none⟩) l.length cap)) W A2 c2 r2 →
     Calls Tryz.prog fn (#[.slice A1 r1.length c1, .slice A2 r2.length c2] ++ caps) W fun e w' => e = .returned (.int .i64 (cmp r1 r2)) ∧ Ext W w')
   (hP : ∀ r ∈ l, P r) (hab : a ≤ b) (hb : b ≤ l.length) (hn : l.length ≤ 1000000) (hen : IsFn fn) :
   Calls Tryz.prog 225 #[.slice (some ⟨g, 0, none⟩) l.length cap, .int .i64 a, .int .i64 b, .func (.func fn) #[] caps] w fun e w' =>
     e = .returned (.tuple #[]) ∧ rdRow.Own F B 41 w' (.slice (some ⟨g, 0, none⟩) l.length cap) (insSort cmp a b l) ∧ I w' ∧ Keep (fun k => k = g) w w' := by
 go_enter Tryz.func225, Tryz.ntmps225
 go_wp2_with (fail)
 go_loopw [8, 9] (fun i _ wr => ∃ (k : Nat) (L : List Row), i = .int .i64 k ∧ a + 1 ≤ k ∧ (k ≤ b ∨ k = a + 1) ∧ L.length = l.length ∧ (∀ r ∈ L, P r) ∧ As (insSort cmp a b l = (List.range' k (b - k)).foldl (fun l i => insDown cmp a i l) L) ∧ rdRow.Own F B 41 wr (.slice (some ⟨g, 0, none⟩) l.length cap) L ∧ I wr ∧ Keep (fun k => k = g) w wr) (fun i _ _ => b - (intOf i).toNat)
 case atStart => exact ⟨a + 1, l, by go_num, Nat.le_refl _, .inr rfl, rfl, hP, ⟨rfl⟩, hO, hI, Keep.refl _ _⟩
 case round =>
   obtain ⟨k, L, rfl, hk1, hk2, hLl, hLP, hS, hLO, hLI, hLK⟩ := hrel
   by_cases hlt : k < b
   · go_wp2_with (fail)
     go_loopw [9] (fun v wr => ∃ (j : Nat) (M : List Row), v = .int .i64 j ∧ j ≤ k ∧ M.length = l.length ∧ (∀ r ∈ M, P r) ∧ As (insDown cmp a k L = insDown cmp a j M) ∧ rdRow.Own F B 41 wr (.slice (some ⟨g, 0, none⟩) l.length cap) M ∧ I wr ∧ Keep (fun k => k = g) w wr) (fun v _ => (intOf v).toNat)
     case atStart => exact ⟨k, L, by go_num, Nat.le_refl _, hLl, hLP, ⟨rfl⟩, hLO, hLI, hLK⟩
     case round =>
       clear hLO hLI hLK hLP
       obtain ⟨j, M, rfl, hjk, hMl, hMP, hD, hMO, hMI, hMK⟩ := hrel
       by_cases haj : a < j
       · obtain ⟨j, rfl⟩ : ∃ i, j = i + 1 := ⟨j - 1, by omega⟩
         obtain ⟨A1, c1, d1, f1, s1⟩ := row_own hMO (i := j + 1) (by omega)
         obtain ⟨A2, c2, d2, f2, s2⟩ := row_own hMO (i := j) (by omega)
         have e1 : IntKind.i64.wrap ((j : Int) + 1 - 1) = (j : Int) := by rw [IntKind.wrap_i64]; omega
         have e1' : IntKind.i64.wrap (j : Int) = (j : Int) := by rw [IntKind.wrap_i64]; omega
         have e1'' : wrap64 (j : Int) = (j : Int) := by unfold wrap64; omega
         have e2 : (0 : Int) ≤ (j : Int) + 1 := by omega
         have e3 : (0 : Int) ≤ (j : Int) := by omega
         have e4 : (j : Int) + 1 < (l.length : Int) := by omega
         have e5 : (j : Int) < (l.length : Int) := by omega
         have haj1 : decide ((a : Int) < (j : Int) + 1) = true := decide_eq_true (by omega)
         have hent := hen (#[.slice A1 M[j + 1].length c1, .slice A2 M[j].length c2] ++ caps)
         go_wp2_with (fail)
         go_region_held3 (fun w' => Ext wr w' ∧ w'.cell? ⟨g, j + 1, none⟩ = some (.slice A1 M[j + 1].length c1) ∧ w'.cell? ⟨g, j, none⟩ = some (.slice A2 M[j].length c2))
           (((try dsimp only); go_split_ands; (repeat' with_reducible apply And.intro) <;> first | with_reducible assumption | ((repeat (first | with_reducible refine Ext.drew ?_ | with_reducible refine Ext.drewN ?_ _ | with_reducible refine Ext.alloc ?_ _)); first | with_reducible assumption | with_reducible exact Ext.refl _ | with_reducible exact Ext.trans (by with_reducible assumption) (by with_reducible assumption)) | (with_reducible exact Ext.cell (by with_reducible assumption) (by with_reducible assumption)) | (go_keep; done)))
           (first | (go_split_ands; (with_reducible refine (hf _ M[j + 1] M[j] A1 c1 A2 c2 (hIk _ _ hMI (Ext.keep (by with_reducible assumption) _)) (hMP _ (List.getElem_mem _)) (hMP _ (List.getElem_mem _)) (s1.ext (by with_reducible assumption)) (s2.ext (by with_reducible assumption))).mono ?_); rintro e w1 ⟨rfl, hb⟩))
         go_split_ands
         rename_i hE1 hx1 hx2
         have hMO1 := hMO.ext hE1
         have hMI1 := hIk _ _ hMI (hE1.keep _)
         have hMK1 := hMK.trans (hE1.keep _)
         by_cases hcm : cmp M[j + 1] M[j] < 0
         · have hcm1 : decide (cmp M[j + 1] M[j] < 0) = true := decide_eq_true hcm
           obtain ⟨_, _, _, f1', _⟩ := row_own hMO1 (i := j + 1) (by omega)
           obtain ⟨_, _, _, f2', _⟩ := row_own hMO1 (i := j) (by omega)
           clear d1 d2 f1 f2 hMO hMI hMK hent
           have hS2 := hMO1.set1 rfl (i := j + 1) (by omega) (u := .slice A2 M[j].length c2) (y := M[j]) ⟨A2, c2, rfl, s2.ext hE1⟩
           have hK2 : Keep (Fv F (.slice (some ⟨g, 0, none⟩) l.length cap)) w1 (w1.setCell ⟨g, j + 1, none⟩ (.slice A2 M[j].length c2)) := Keep.setCell _ _ _ (.inr rfl)
           have hS3 := hS2.set1 rfl (i := j) (by rw [List.length_set]; omega) (u := .slice A1 M[j + 1].length c1) (y := M[j + 1]) ⟨A1, c1, rfl, (s1.ext hE1).keep hK2⟩
           have hS4 := As.mk (hS3.ext ((Ext.refl _).drew))
           have hsw : swap M (j + 1) j = (M.set (j + 1) M[j]).set j M[j + 1] := by rw [swap, getD_at (show j < M.length by omega), getD_at (show j + 1 < M.length by omega)]
           rw [show (M.set (j + 1) M[j]).set j M[j + 1] = swap M (j + 1) j from hsw.symm] at hS4
           have hK4 : Keep (fun k => k = g) w1 ((w1.setCell ⟨g, j + 1, none⟩ (.slice A2 M[j].length c2)).setCell ⟨g, j, none⟩ (.slice A1 M[j + 1].length c1)).drew := (((Keep.setCell (F := fun k => k = g) w1 ⟨g, j + 1, none⟩ _ rfl).trans (Keep.setCell (F := fun k => k = g) _ ⟨g, j, none⟩ _ rfl)).trans ((Ext.refl _).drew.keep _))
           have HK4 := As.mk hK4
           clear hS2 hS3 hK2 hsw hK4
           go_wp2_with (fail)
           go_region
           go_wp2
           go_roundw
           case rel => exact ⟨j, swap M (j + 1) j, by go_num, by omega, by rw [swap_length]; exact hMl, fun r hr => hMP r (swap_mem (by omega) (by omega) r hr), ⟨by rw [hD.out, insDown, if_pos ⟨by omega, by rw [getD_at (show j < M.length by omega), getD_at (show j + 1 < M.length by omega)]; exact hcm⟩]⟩, hS4.out, hIk _ _ hMI1 HK4.out, hMK1.trans HK4.out⟩
           case measure => simp [intOf] <;> omega
         · have hcm1 : decide (cmp M[j + 1] M[j] < 0) = false := decide_eq_false hcm
           have hD2 : insDown cmp a k L = M := by rw [hD.out, insDown, if_neg (by rintro ⟨_, h⟩; rw [getD_at (show j < M.length by omega), getD_at (show j + 1 < M.length by omega)] at h; exact hcm h)]
           have HD2 := As.mk hD2
           clear hD2
           go_wp2
           go_roundw
           case rel => exact ⟨k + 1, M, by go_num, by omega, by omega, hMl, hMP, ⟨by rw [hS.out, range'_step (by omega), List.foldl_cons, HD2.out]⟩, hMO1, hMI1, hMK1⟩
           case measure => simp [intOf] <;> omega
       · have haj1 : decide ((a : Int) < (j : Int)) = false := decide_eq_false (by omega)
         have hD2 : insDown cmp a k L = M := by
           rw [hD.out]
           cases j with
           | zero => rfl
           | succ j => rw [insDown, if_neg (by rintro ⟨h, _⟩; omega)]
         have HD2 := As.mk hD2
         clear hD2
         go_wp2_with (fail)
         go_quiet (fail)
         go_wp2
         go_roundw
         case rel => exact ⟨k + 1, M, by go_num, by omega, by omega, hMl, hMP, ⟨by rw [hS.out, range'_step (by omega), List.foldl_cons, HD2.out]⟩, hMO.ext ((Ext.refl _).drewN _), hIk _ _ hMI ((Ext.refl _).drewN _ |>.keep _), hMK.trans ((Ext.refl _).drewN _ |>.keep _)⟩
         case measure => simp [intOf] <;> omega
   · have hkb : b - k = 0 := by omega
     rw [hkb] at hS
     go_wp2
     go_returns
     exact ⟨rfl, by rw [hS.out]; exact hLO, hLI, hLK⟩
end K4
namespace K5
open Go Go.RowKit
open KB K1 K2 K3 K4
theorem elRow : El Tryz.prog 42 41 rdRow.sz 24 := El.mk (z := .slice none 0 0) Tryz.underlying42 (by kernel_rfl) rfl (by decide)
theorem sortF (F : Nat → Prop) (sb : Nat) (A : Option Addr) (c : Nat) (s : Sch) (A1 A2 : Option Addr) (c1 c2 : Nat) (a b : Row) (w : World) (hB : SchBox F w sb A c s) (hs : s.Ok) (ha : rdVal.Sl F w A1 c1 a) (hb : rdVal.Sl F w A2 c2 b) (oa : RowOk s a) (ob : RowOk s b) :
   Calls Tryz.prog 57 #[.slice A1 a.length c1, .slice A2 b.length c2, .pointer (some ⟨sb, 0, none⟩)] w fun e w' => e = .returned (.int .i64 (cmpS s a b)) ∧ Ext w w' := by
 have c0 := bC hB.1 0
 have c1 := bC hB.1 1
 have c2 := bC hB.1 2
 have c3 := bC hB.1 3
 go_enter Tryz.func57, Tryz.ntmps57
 go_wp2_with (fail)
 refine (compareS F A c s A1 A2 _ _ a b _ hB.2 hs ha hb oa.key ob.key).mono ?_; rintro e w1 ⟨rfl, hb⟩
 go_wp2
 go_ret
 exact ⟨rfl, hb⟩
theorem sortedF (F : Nat → Prop) (sb : Nat) (A : Option Addr) (c : Nat) (s : Sch) (A1 A2 : Option Addr) (c1 c2 : Nat) (a b : Row) (w : World) (hB : SchBox F w sb A c s) (hs : s.Ok) (ha : rdVal.Sl F w A1 c1 a) (hb : rdVal.Sl F w A2 c2 b) (oa : RowOk s a) (ob : RowOk s b) :
   Calls Tryz.prog 51 #[.slice A1 a.length c1, .slice A2 b.length c2, .pointer (some ⟨sb, 0, none⟩)] w fun e w' => e = .returned (.int .i64 (cmpS s a b)) ∧ Ext w w' := by
 have c0 := bC hB.1 0
 have c1 := bC hB.1 1
 have c2 := bC hB.1 2
 have c3 := bC hB.1 3
 go_enter Tryz.func51, Tryz.ntmps51
 go_wp2_with (fail)
 refine (compareS F A c s A1 A2 _ _ a b _ hB.2 hs ha hb oa.key ob.key).mono ?_; rintro e w1 ⟨rfl, hb⟩
 go_wp2
 go_ret
 exact ⟨rfl, hb⟩
def sortS (s : Sch) (l : List Row) : List Row := insSort (cmpS s) 0 l.length l
theorem insSort_length (cmp : Row → Row → Int) (a b : Nat) (l : List Row) : (insSort cmp a b l).length = l.length := by
 unfold insSort
 generalize List.range' (a + 1) (b - (a + 1)) = is
 induction is generalizing l with
 | nil => rfl
 | cons i is ih => rw [List.foldl_cons, ih, insDown_length]
theorem insSort_none (cmp : Row → Row → Int) (a : Nat) (l : List Row) : insSort cmp a a l = l := by
 unfold insSort; rw [show a - (a + 1) = 0 by omega]; rfl
theorem stableC (F : Nat → Prop) (B g cap : Nat) (l : List Row) (fn : Nat) (caps : Array Value) (cmp : Row → Row → Int) (P : Row → Prop) (I : World → Prop) (w : World)
   (hO : rdRow.Own F B 41 w (.slice (some ⟨g, 0, none⟩) l.length cap) l) (hI : I w) (hIk : ∀ W W', I W → Keep (fun k => k = g) W W' → I W')
   (hf : ∀ W r1 r2 A1 c1 A2 c2, I W → P r1 → P r2 → rdVal.Sl (Fv F (.slice (some ⟨g, 0, none⟩) l.length cap)) W A1 c1 r1 → rdVal.Sl (Fv F (.slice (some ⟨g, 0, none⟩) l.length cap)) W A2 c2 r2 →
     Calls Tryz.prog fn (#[.slice A1 r1.length c1, .slice A2 r2.length c2] ++ caps) W fun e w' => e = .returned (.int .i64 (cmp r1 r2)) ∧ Ext W w')
   (hP : ∀ r ∈ l, P r) (hn : l.length < 20) (hen : IsFn fn) :
   Calls Tryz.prog 122 #[.slice (some ⟨g, 0, none⟩) l.length cap, .int .i64 l.length, .func (.func fn) #[] caps] w fun e w' =>
     e = .returned (.tuple #[]) ∧ rdRow.Own F B 41 w' (.slice (some ⟨g, 0, none⟩) l.length cap) (insSort cmp 0 l.length l) ∧ I w' ∧ Keep (fun k => k = g) w w' := by
 go_enter Tryz.func122, Tryz.ntmps122
 go_wp2_with (fail)
 refine wp_loop_rounds 1 ?_
 rw [rounds_succ]
 go_wp2_with (fail)
 refine (insC F B g cap l 0 l.length fn caps cmp P I _ hO hI hIk hf hP (by omega) (by omega) (by omega) hen).mono ?_; rintro e w1 ⟨rfl, hO1, hI1, hK1⟩
 go_wp2_with (fail)
 refine wp_loop_rounds 1 ?_
 rw [rounds_succ]
 go_wp2
 go_returns
 exact ⟨rfl, hO1, hI1, hK1⟩
theorem sortStableC (F : Nat → Prop) (B g cap : Nat) (l : List Row) (fn : Nat) (caps : Array Value) (cmp : Row → Row → Int) (P : Row → Prop) (I : World → Prop) (w : World)
   (hO : rdRow.Own F B 41 w (.slice (some ⟨g, 0, none⟩) l.length cap) l) (hI : I w) (hIk : ∀ W W', I W → Keep (fun k => k = g) W W' → I W')
   (hf : ∀ W r1 r2 A1 c1 A2 c2, I W → P r1 → P r2 → rdVal.Sl (Fv F (.slice (some ⟨g, 0, none⟩) l.length cap)) W A1 c1 r1 → rdVal.Sl (Fv F (.slice (some ⟨g, 0, none⟩) l.length cap)) W A2 c2 r2 →
     Calls Tryz.prog fn (#[.slice A1 r1.length c1, .slice A2 r2.length c2] ++ caps) W fun e w' => e = .returned (.int .i64 (cmp r1 r2)) ∧ Ext W w')
   (hP : ∀ r ∈ l, P r) (hn : l.length < 20) (hen : IsFn fn) :
   Calls Tryz.prog 56 #[.slice (some ⟨g, 0, none⟩) l.length cap, .func (.func fn) #[] caps] w fun e w' =>
     e = .returned (.tuple #[]) ∧ rdRow.Own F B 41 w' (.slice (some ⟨g, 0, none⟩) l.length cap) (insSort cmp 0 l.length l) ∧ I w' ∧ Keep (fun k => k = g) w w' := by
 go_enter Tryz.func56, Tryz.ntmps56
 go_wp2_with (fail)
 refine (stableC F B g cap l fn caps cmp P I _ hO hI hIk hf hP hn hen).mono ?_; rintro e w1 ⟨rfl, hO1, hI1, hK1⟩
 go_wp2
 go_returns
 exact ⟨rfl, hO1, hI1, hK1⟩
theorem zeroRow : (Tryz.prog.info? 41).map (·.zero) = some (some (.slice none 0 0)) := by kernel_rfl
theorem rdRow_zero (F : Nat → Prop) (W : World) : rdRow.C F W (Value.slice none 0 0).cells.toList [] := ⟨none, 0, rfl, Rd.Sl.nil0 _ _ _⟩
theorem sortC (F : Nat → Prop) (A : Option Addr) (c : Nat) (s : Sch) (Al : Option Addr) (cl : Nat) (l : List Row) (w : World) (hA : SchAt F w A c s) (hs : s.Ok) (hl : rdRow.Sl F w Al cl l) (ho : ∀ r ∈ l, RowOk s r) (hn : l.length < 20) (hF : ∀ k, F k → k < w.heap.size) :
   Calls Tryz.prog 25 #[schV A c s, .slice Al l.length cl] w fun e w' => ∃ A' c', e = .returned (.slice A' (sortS s l).length c') ∧ rdRow.Sl F w' A' c' (sortS s l) ∧ Ext w w' := by
 have hB := SchBox.new hA
 have hl1 := hl.ext ((Ext.refl w).alloc (.cells #[.slice A s.types.length c, .int .i64 s.keys, .int .i64 s.mode, .int .i64 s.grain] 27))
 have hE := (Ext.refl w).alloc (.cells #[.slice A s.types.length c, .int .i64 s.keys, .int .i64 s.mode, .int .i64 s.grain] 27)
 have hl2 : rdRow.Sl (Fv F (.slice (some ⟨w.heap.size + 1, 0, none⟩) l.length l.length)) _ Al cl l := hl1.narrow (by decide) (fun k hk hG => by
   rcases hG with hG | hG
   · exact hG
   · simp [Value.ownBlock] at hG hk; omega)
 have hA1 : SchAt (Fv F (.slice (some ⟨w.heap.size + 1, 0, none⟩) l.length l.length)) _ A c s := Rd.Sl.narrow (by decide) (Rd.Sl.ext hA ((Ext.refl w).alloc (.cells #[.slice A s.types.length c, .int .i64 s.keys, .int .i64 s.mode, .int .i64 s.grain] 27))) (fun k hk hG => by
   rcases hG with hG | hG
   · exact hG
   · simp [Value.ownBlock] at hG hk; omega)
 go_enter Tryz.func25, Tryz.ntmps25
 go_wp2_with (first
   | (at_make; refine wpList_makeN rfl (.tmp 7) (.tmp 7) 42 (by rfl) rdRow (F := F) (B := w.heap.size + 1) elRow (n := l.length) (by rfl) (by rfl) rfl (by omega) (by decide) (by simp) (w.heap.size + 1) (by simp) zeroRow rdRow_zero ?_; intro w1 hown hraw hE1 hz1)
   | (refine wpList_copyAll (o := ⟨some 11, _, _, _, _, _⟩) rfl (.tmp 9) (.tmp 10) 42 42 (by rfl) rdRow rfl elRow (by rfl) hraw.choose_spec (by rfl) rfl rfl (hl2.ext hE1) ?_; intro w2 hown2 hk2))
 refine (sortStableC F (w.heap.size + 1) (w.heap.size + 1) l.length l 57 #[.pointer (some ⟨w.heap.size, 0, none⟩)] (cmpS s) (RowOk s) (fun W => SchBox (Fv F (.slice (some ⟨w.heap.size + 1, 0, none⟩) l.length l.length)) W w.heap.size A c s) w2 hown2 ?_ ?_ ?_ ho hn (fun _ _ => rfl)).mono ?_
 · exact ⟨hk2.blk (by simp) (hE1.blk hB.1), Rd.Sl.keep (Rd.Sl.ext hA1 hE1) (hk2.mono (fun k _ hk => .inr (by rw [hk]; rfl)))⟩
 · rintro W W' ⟨h1, h2⟩ hK
   exact ⟨hK.blk (by simp) h1, Rd.Sl.keep h2 (hK.mono (fun k _ hk => .inr (by rw [hk]; rfl)))⟩
 · intro W r1 r2 A1 c1 A2 c2 hI o1 o2 s1 s2
   exact sortF _ _ A c s A1 A2 c1 c2 r1 r2 W hI hs s1 s2 o1 o2
 rintro e w3 ⟨rfl, hO3, hI3, hK3⟩
 have hE3 : Ext w w3 := ((hE.trans hE1).keepNew (hk2.trans hK3) (fun i hi => by rw [hi]; omega))
 obtain ⟨A', c', hv, hs'⟩ := hO3.shut (fun k hk => by have := hF k hk; omega)
 go_wp2
 go_ret
 exact ⟨A', c', by show _ = Ending.returned (.slice A' (insSort (cmpS s) 0 l.length l).length c'); rw [← hv]; rfl, hs', hE3⟩
def InOrder (cmp : Row → Row → Int) (l : List Row) : Prop := ∀ i (h : i + 1 < l.length), 0 ≤ cmp l[i + 1] l[i]
theorem isSortedC (F : Nat → Prop) (A : Option Addr) (c : Nat) (l : List Row) (fn : Nat) (caps : Array Value) (cmp : Row → Row → Int) (P : Row → Prop) (w : World) (hl : rdRow.Sl F w A c l)
   (hf : ∀ W r1 r2 A1 c1 A2 c2, Ext w W → P r1 → P r2 → rdVal.Sl F W A1 c1 r1 → rdVal.Sl F W A2 c2 r2 → Calls Tryz.prog fn (#[.slice A1 r1.length c1, .slice A2 r2.length c2] ++ caps) W fun e w' => e = .returned (.int .i64 (cmp r1 r2)) ∧ Ext W w')
   (hP : ∀ r ∈ l, P r) (ho : InOrder cmp l) (hn : l.length ≤ 1000000) (hen : IsFn fn) :
   Calls Tryz.prog 50 #[.slice A l.length c, .func (.func fn) #[] caps] w fun e w' => e = .returned (.bool true) ∧ Ext w w' := by
 have hw0 : IntKind.i64.wrap ((l.length : Int) - 1) = (l.length : Int) - 1 := by rw [IntKind.wrap_i64]; omega
 have hw1 : wrap64 ((l.length : Int) - 1) = (l.length : Int) - 1 := by unfold wrap64; omega
 go_enter Tryz.func50, Tryz.ntmps50
 go_wp2_with (fail)
 go_loopw [5] (fun v wr => ∃ n : Int, v = .int .i64 n ∧ -1 ≤ n ∧ n < l.length ∧ Ext w wr) (fun v _ => (intOf v + 1).toNat)
 case atStart => exact ⟨_, rfl, by omega, by omega, Ext.refl w⟩
 case round =>
   clear hw0 hw1
   obtain ⟨n, rfl, hn1, hn2, hE⟩ := hrel
   by_cases hpos : 0 < n
   · obtain ⟨j, rfl⟩ : ∃ j : Nat, n = (j : Int) + 1 := ⟨(n - 1).toNat, by omega⟩
     obtain ⟨b0, o0, A1, c1, rfl, d1, s1⟩ := sl_get (hl.ext hE) (k := j + 1) (by omega)
     obtain ⟨b1, o1, A2, c2, hh, d2, s2⟩ := sl_get (hl.ext hE) (k := j) (by omega)
     simp only [Option.some.injEq, Addr.mk.injEq, and_true] at hh
     obtain ⟨rfl, rfl⟩ := hh
     have e1 : IntKind.i64.wrap ((j : Int) + 1 - 1) = (j : Int) := by rw [IntKind.wrap_i64]; omega
     have e1' : IntKind.i64.wrap (j : Int) = (j : Int) := by rw [IntKind.wrap_i64]; omega
     have e1'' : wrap64 (j : Int) = (j : Int) := by unfold wrap64; omega
     have e2 : (0 : Int) ≤ (j : Int) + 1 := by omega
     have e3 : (0 : Int) ≤ (j : Int) := by omega
     have e4 : (j : Int) + 1 < (l.length : Int) := by omega
     have e5 : (j : Int) < (l.length : Int) := by omega
     have hent := hen (#[.slice A1 l[j + 1].length c1, .slice A2 l[j].length c2] ++ caps)
     have hcm : decide (cmp l[j + 1] l[j] < 0) = false := decide_eq_false (by have := ho j (by omega); omega)
     go_wp2_with (fail)
     go_region_held3 (fun w' => Ext wr w' ∧ w'.cell? ⟨b0, o0 + (j + 1), none⟩ = some (.slice A1 l[j + 1].length c1) ∧ w'.cell? ⟨b0, o0 + j, none⟩ = some (.slice A2 l[j].length c2))
       (((try dsimp only); go_split_ands; (repeat' with_reducible apply And.intro) <;> first | with_reducible assumption | ((repeat (first | with_reducible refine Ext.drew ?_ | with_reducible refine Ext.drewN ?_ _ | with_reducible refine Ext.alloc ?_ _)); first | with_reducible assumption | with_reducible exact Ext.refl _ | with_reducible exact Ext.trans (by with_reducible assumption) (by with_reducible assumption)) | (with_reducible exact Ext.cell (by with_reducible assumption) (by with_reducible assumption)) | (go_keep; done)))
       (first | (go_split_ands; (with_reducible refine (hf _ l[j + 1] l[j] A1 c1 A2 c2 (hE.trans (by with_reducible assumption)) (hP _ (List.getElem_mem _)) (hP _ (List.getElem_mem _)) (s1.ext (by with_reducible assumption)) (s2.ext (by with_reducible assumption))).mono ?_); rintro e w1 ⟨rfl, hb⟩))
     go_split_ands
     rename_i hE1 _ _
     go_wp2
     go_roundw
     case rel => exact ⟨j, by go_num, by omega, by omega, hE.trans hE1⟩
     case measure => simp [intOf] <;> omega
   · have hpos1 : decide (0 < n) = false := decide_eq_false hpos
     go_wp2
     go_ret
     exact ⟨rfl, hE⟩
theorem sortedC (F : Nat → Prop) (A : Option Addr) (c : Nat) (s : Sch) (Al : Option Addr) (cl : Nat) (l : List Row) (w : World) (hA : SchAt F w A c s) (hs : s.Ok) (hl : rdRow.Sl F w Al cl l) (ho : ∀ r ∈ l, RowOk s r) (hi : InOrder (cmpS s) l) (hn : l.length ≤ 1000000) :
   Calls Tryz.prog 22 #[schV A c s, .slice Al l.length cl] w fun e w' => e = .returned (.bool true) ∧ Ext w w' := by
 have hB := SchBox.new hA
 go_enter Tryz.func22, Tryz.ntmps22
 go_wp2_with (fail)
 refine (isSortedC F Al cl l 51 #[.pointer (some ⟨w.heap.size, 0, none⟩)] (cmpS s) (RowOk s) _ (hl.ext ((Ext.refl w).alloc _)) ?_ ho hi hn (fun _ _ => rfl)).mono ?_
 · intro W r1 r2 A1 c1 A2 c2 hW o1 o2 s1 s2
   exact sortedF _ _ A c s A1 A2 c1 c2 r1 r2 W (hB.ext hW) hs s1 s2 o1 o2
 rintro e w2 ⟨rfl, hb⟩
 go_wp2
 go_ret
 exact ⟨rfl, ((Ext.refl w).alloc _).trans hb⟩
end K5
namespace K69
open Go Go.RowKit
open KB K1 K2 K3 K5
abbrev r0V : Value := .agg #[.bool false, .bool false, .slice none 0 0, .slice none 0 0]
theorem inC (A : Option Addr) (c : Nat) (s : Sch) (Ar : Option Addr) (n cr : Nat) (w : World) : Calls Tryz.prog 210 #[schV A c s, r0V, .slice Ar n cr] w fun e w' => e = .returned (.bool true) ∧ Ext w w' := by
 have hE := ((Ext.refl w).alloc (.cells #[.slice A s.types.length c, .int .i64 s.keys, .int .i64 s.mode, .int .i64 s.grain] 27)).alloc (.cells #[.bool false, .bool false, .slice none 0 0, .slice none 0 0] 71)
 go_enter Tryz.func210, Tryz.ntmps210
 go_wp2
 go_ret
 exact ⟨rfl, hE⟩
theorem emptyC (A : Option Addr) (c : Nat) (s : Sch) (w : World) : Calls Tryz.prog 286 #[schV A c s, r0V] w fun e w' => e = .returned (.bool false) ∧ Ext w w' := by
 have hE := ((Ext.refl w).alloc (.cells #[.slice A s.types.length c, .int .i64 s.keys, .int .i64 s.mode, .int .i64 s.grain] 27)).alloc (.cells #[.bool false, .bool false, .slice none 0 0, .slice none 0 0] 71)
 go_enter Tryz.func286, Tryz.ntmps286
 go_wp2
 go_ret
 exact ⟨rfl, hE⟩
def srch (v : Bool) (n : Nat) : Nat := if v then 0 else n
theorem searchC (n : Nat) (hn : n ≤ 1000000) (v : Bool) (fn : Nat) (caps : Array Value) (w : World) (hen : IsFn fn) (hf : ∀ k W, k < n → Ext w W → Calls Tryz.prog fn (#[.int .i64 (k : Nat)] ++ caps) W fun e w' => e = .returned (.bool v) ∧ Ext W w') :
   Calls Tryz.prog 285 #[.int .i64 n, .func (.func fn) #[] caps] w fun e w' => e = .returned (.int .i64 (srch v n : Nat)) ∧ Ext w w' := by
 have hent := hen caps
 go_enter Tryz.func285, Tryz.ntmps285
 go_wp2_with (fail)
 go_loopw [5, 6, 7] (fun i j _ wr => ∃ a b : Nat, i = .int .i64 a ∧ j = .int .i64 b ∧ a ≤ b ∧ b ≤ n ∧ As (v = true → a = 0) ∧ As (v = false → b = n) ∧ Ext w wr) (fun i j _ _ => (intOf j).toNat - (intOf i).toNat)
 case atStart => exact ⟨0, n, by go_num, by go_num, Nat.zero_le _, Nat.le_refl _, ⟨fun _ => rfl⟩, ⟨fun _ => rfl⟩, Ext.refl _⟩
 case round =>
   obtain ⟨a, b, rfl, rfl, hab, hbl, hlo, hhi, hE⟩ := hrel
   by_cases hlt : a < b
   · have hm : (a + b) / 2 < n := by omega
     have e1 : (0 : Int) ≤ (a : Int) + b := by omega
     have e2 : (a : Int) + b ≤ 2000000 := by omega
     have hc := hf ((a + b) / 2) wr hm hE
     have e3 : (((a + b) / 2 : Nat) : Int) = ((a : Int) + b) / 2 := by omega
     rw [e3] at hc
     have hent := hen (#[.int .i64 (((a : Int) + b) / 2)] ++ caps)
     clear hf
     cases v
     · go_wp2_with (first | (refine hc.mono ?_; rintro e w1 ⟨rfl, hE1⟩))
       go_roundw
       case rel => exact ⟨(a + b) / 2 + 1, b, by go_num, rfl, by omega, hbl, ⟨fun q => by cases q⟩, hhi, hE.trans hE1⟩
       case measure => simp [intOf] <;> omega
     · go_wp2_with (first | (refine hc.mono ?_; rintro e w1 ⟨rfl, hE1⟩))
       go_roundw
       case rel => exact ⟨a, (a + b) / 2, rfl, by go_num, by omega, by omega, hlo, ⟨fun q => by cases q⟩, hE.trans hE1⟩
       case measure => simp [intOf] <;> omega
   · obtain rfl : a = b := by omega
     have ha : As (srch v n = a) := ⟨by
       cases v
       · exact (hhi.out rfl).symm
       · exact (hlo.out rfl).symm⟩
     go_wp2
     go_ret
     rw [ha.out]
     exact ⟨rfl, hE⟩
theorem aboveC (xr xs xm : Nat) (k : Int) (w : World) (h : w.cell? ⟨xr, 1, none⟩ = some (.bool false)) : Calls Tryz.prog 283 #[.int .i64 k, .pointer (some ⟨xr, 0, none⟩), .pointer (some ⟨xs, 0, none⟩), .pointer (some ⟨xm, 0, none⟩)] w fun e w' => e = .returned (.bool false) ∧ Ext w w' := by
 go_enter Tryz.func283, Tryz.ntmps283
 go_wp2_with (fail)
 go_region
 (try simp only [Exit.inBlock, Exit.then])
 go_wp2
 go_ret
 exact ⟨rfl, (Ext.refl w).drew⟩
theorem beginsC (xn xr xs xm : Nat) (k n : Nat) (hn1 : n ≤ 1000000) (hk : k < n) (w : World) (h : w.cell? ⟨xr, 0, none⟩ = some (.bool false)) (hn : w.cell? ⟨xn, 0, none⟩ = some (.int .i64 n)) : Calls Tryz.prog 284 #[.int .i64 k, .pointer (some ⟨xn, 0, none⟩), .pointer (some ⟨xr, 0, none⟩), .pointer (some ⟨xs, 0, none⟩), .pointer (some ⟨xm, 0, none⟩)] w fun e w' => e = .returned (.bool true) ∧ Ext w w' := by
 have hw : IntKind.i64.wrap ((n : Int) - 1) = (n : Int) - 1 := by rw [IntKind.wrap_i64]; omega
 obtain ⟨b, hb⟩ : ∃ b, ((k : Int) == (n : Int) - 1) = b := ⟨_, rfl⟩
 cases b
 · go_enter Tryz.func284, Tryz.ntmps284
   go_wp2_with (fail)
   go_quiet (fail)
   (try simp only [Exit.inBlock, Exit.then])
   go_wp2
   go_ret
   exact ⟨rfl, (Ext.refl w).drewN _⟩
 · go_enter Tryz.func284, Tryz.ntmps284
   go_wp2_with (fail)
   go_quiet (fail)
   (try simp only [Exit.inBlock, Exit.then])
   go_wp2
   go_ret
   exact ⟨rfl, (Ext.refl w).drewN _⟩
theorem meetsC (Ax : Option Addr) (cx : Nat) (s : Sch) (A : Option Addr) (n c : Nat) (hn : n ≤ 1000000) (w : World) : Calls Tryz.prog 205 #[schV Ax cx s, .slice A n c, r0V] w fun e w' => e = .returned (.tuple #[.int .i64 (0 : Nat), .int .i64 (n : Nat)]) ∧ Ext w w' := by
 obtain ⟨x, hx⟩ : ∃ x, w.heap.size = x := ⟨_, rfl⟩
 have hE := (((Ext.refl w).alloc (.cells #[.slice Ax s.types.length cx, .int .i64 s.keys, .int .i64 s.mode, .int .i64 s.grain] 27)).alloc (.cells #[.slice A n c] 42)).alloc (.cells #[.bool false, .bool false, .slice none 0 0, .slice none 0 0] 71)
 have B1 := bO2 (o' := .cells #[.bool false, .bool false, .slice none 0 0, .slice none 0 0] 71) (bO2 (o' := .cells #[.slice A n c] 42) (bN w (.cells #[.slice Ax s.types.length cx, .int .i64 s.keys, .int .i64 s.mode, .int .i64 s.grain] 27)))
 have B3 := bN ((w.alloc (.cells #[.slice Ax s.types.length cx, .int .i64 s.keys, .int .i64 s.mode, .int .i64 s.grain] 27)).alloc (.cells #[.slice A n c] 42)) (.cells #[.bool false, .bool false, .slice none 0 0, .slice none 0 0] 71)
 have hE4 := hE.alloc (.cells #[.int .i64 n] 3)
 have B4 := bN (((w.alloc (.cells #[.slice Ax s.types.length cx, .int .i64 s.keys, .int .i64 s.mode, .int .i64 s.grain] 27)).alloc (.cells #[.slice A n c] 42)).alloc (.cells #[.bool false, .bool false, .slice none 0 0, .slice none 0 0] 71)) (.cells #[.int .i64 n] 3)
 replace B1 := bO2 (o' := .cells #[.int .i64 n] 3) B1
 replace B3 := bO2 (o' := .cells #[.int .i64 n] 3) B3
 simp only [World.size_alloc] at B3 B4
 go_enter Tryz.func205, Tryz.ntmps205
 go_wp2_with (fail)
 generalize ((((w.alloc (.cells #[.slice Ax s.types.length cx, .int .i64 s.keys, .int .i64 s.mode, .int .i64 s.grain] 27)).alloc (.cells #[.slice A n c] 42)).alloc (.cells #[.bool false, .bool false, .slice none 0 0, .slice none 0 0] 71)).alloc (.cells #[.int .i64 n] 3)) = w1 at *
 clear hE
 rw [hx] at B1 B3 B4
 have b0 := bC B3 0
 have b1 := bC B3 1
 have n0 := bC B4 0
 have hab := fun W (hW : Ext w1 W) => searchC n hn false 283 #[.pointer (some ⟨x + 1 + 1, 0, none⟩), .pointer (some ⟨x, 0, none⟩), .pointer (some ⟨x + 1, 0, none⟩)] W (fun _ _ => rfl) (fun k W' hk hW' => aboveC (x + 1 + 1) x (x + 1) k W' ((hW.trans hW').cell b1))
 have hbe := fun W (hW : Ext w1 W) => searchC n hn true 284 #[.pointer (some ⟨x + 1 + 1 + 1, 0, none⟩), .pointer (some ⟨x + 1 + 1, 0, none⟩), .pointer (some ⟨x, 0, none⟩), .pointer (some ⟨x + 1, 0, none⟩)] W (fun _ _ => rfl) (fun k W' hk hW' => beginsC (x + 1 + 1 + 1) (x + 1 + 1) x (x + 1) k n hn hk W' ((hW.trans hW').cell b0) ((hW.trans hW').cell n0))
 have keep : ∀ w', Ext w1 w' → Ext w1 w' ∧ w'.cell? ⟨x + 1 + 1 + 1, 0, none⟩ = some (.int .i64 n) := fun w' h => ⟨h, h.cell n0⟩
 go_region_held3 (fun w' => Ext w1 w' ∧ w'.cell? ⟨x + 1 + 1 + 1, 0, none⟩ = some (.int .i64 n)) (((try dsimp only); refine keep _ ?_; first | with_reducible assumption | exact XE)) (first | (go_at_call 285; with_reducible refine Calls.mono (hbe _ ?_) ?_; exact XE; rintro e w2 ⟨rfl, hE2⟩; have hx2 := Ext.trans (a := w1) XE hE2) | (go_at_call 285; with_reducible refine Calls.mono (hab _ ?_) ?_; exact XE; rintro e w3 ⟨rfl, hE3⟩; have hx3 := Ext.trans (a := w1) XE hE3))
 all_goals
   (try simp only [Exit.inBlock, Exit.then])
   have hxx : Ext w1 (by first | exact w3 | exact w2) := by first | exact hx3 | exact hx2
   have hE4x := hE4.trans hxx
   rw [show srch true n = 0 from rfl, show srch false n = n from rfl]
   (have p0 := bC (hxx.blk B1) 0; have p1 := bC (hxx.blk B1) 1; have p2 := bC (hxx.blk B1) 2; have p3 := bC (hxx.blk B1) 3)
   (have q0 := bC (hxx.blk B3) 0; have q1 := bC (hxx.blk B3) 1; have q2 := bC (hxx.blk B3) 2; have q3 := bC (hxx.blk B3) 3)
   clear keep hab hbe b0 b1 n0
   rcases Nat.eq_zero_or_pos n with h0 | h0
   · subst h0
     go_wp2
     go_returns
     exact ⟨rfl, hE4x⟩
   · have d0 : decide ((n : Int) ≤ 0) = false := decide_eq_false (by omega)
     go_wp2_with (fail)
     refine (emptyC Ax cx s _).mono ?_; rintro e w5 ⟨rfl, hE5⟩
     go_wp2
     go_returns
     exact ⟨rfl, hE4x.trans hE5⟩
end K69
end Go.Proofs.YtbjeejimedhniaaGreatDoor
