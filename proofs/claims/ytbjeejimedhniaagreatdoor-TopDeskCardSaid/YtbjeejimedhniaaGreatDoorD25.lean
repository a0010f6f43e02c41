/- Contracts of the program's functions, as the walks of the law use them. -/
import Derived.Test.YtbjeejimedhniaaGreatDoorD13
import Derived.Test.YtbjeejimedhniaaGreatDoorD21
import Derived.Test.YtbjeejimedhniaaGreatDoorD24
import Derived.Laws.EntriesVeiled
import Derived.Shelf.Strconv.ParseIntPublic10
import Derived.Test.YtbjeejimedhniaaGreatDoorProg
import Derived.Test.YtbjeejimedhniaaGreatDoorD2
import Derived.Test.YtbjeejimedhniaaGreatDoorD1
import Derived.Test.YtbjeejimedhniaaGreatDoorD17
import Derived.Test.YtbjeejimedhniaaGreatDoorD18
import Derived.Test.YtbjeejimedhniaaGreatDoorD15
set_option linter.unusedVariables false
set_option linter.unusedSimpArgs false
set_option maxRecDepth 100000
set_option maxHeartbeats 2000000
namespace Go.Proofs.YtbjeejimedhniaaGreatDoor
namespace K96
open Go Go.RowKit Go.Maps
open KB KB2 K33
theorem strLaw : Keyed Tryz.prog 9 := Maps.string_keyed Tryz.underlying9
abbrev ordV (a b : Int) (t : Bool) (f : Nat) : Value := .agg #[.int .i64 a, .int .i64 b, .bool t, .func (.func f) #[] #[]]
abbrev oMerge : Value := ordV 2 2 true 198
abbrev oStep : Value := ordV 0 0 true 199
abbrev oParts : Value := ordV 0 0 true 200
abbrev oFail : Value := ordV 0 1048576 false 201
abbrev oLimit : Value := ordV 1 1 false 202
abbrev oCrash : Value := ordV 1 1048576 false 203
abbrev oFiles : Value := ordV 0 0 false 204
abbrev oZero : Value := .agg #[.int .i64 0, .int .i64 0, .bool false, .nilFunc]
abbrev TO : List Value := [oZero, oMerge, oStep, oParts, oFail, oLimit, oCrash, oFiles]
def kS (l : List UInt8) : Lit := .string l
theorem zeroO (w : World) : (zeroValue 187).run Tryz.prog w = .ok oZero w := by kernel_rfl
theorem kMerge : keyOf Tryz.prog 9 (.string ⟨#[109, 101, 114, 103, 101]⟩) = some (kS [109, 101, 114, 103, 101]) := by kernel_rfl
theorem kStep : keyOf Tryz.prog 9 (.string ⟨#[115, 116, 101, 112]⟩) = some (kS [115, 116, 101, 112]) := by kernel_rfl
theorem kParts : keyOf Tryz.prog 9 (.string ⟨#[112, 97, 114, 116, 115]⟩) = some (kS [112, 97, 114, 116, 115]) := by kernel_rfl
theorem kFail : keyOf Tryz.prog 9 (.string ⟨#[102, 97, 105, 108]⟩) = some (kS [102, 97, 105, 108]) := by kernel_rfl
theorem kLimit : keyOf Tryz.prog 9 (.string ⟨#[108, 105, 109, 105, 116]⟩) = some (kS [108, 105, 109, 105, 116]) := by kernel_rfl
theorem kCrash : keyOf Tryz.prog 9 (.string ⟨#[99, 114, 97, 115, 104]⟩) = some (kS [99, 114, 97, 115, 104]) := by kernel_rfl
theorem kFiles : keyOf Tryz.prog 9 (.string ⟨#[102, 105, 108, 101, 115]⟩) = some (kS [102, 105, 108, 101, 115]) := by kernel_rfl
def OrdAt (w : World) (b n : Nat) (es : List (Lit × Value)) : Prop := ∃ D, w.ownsMap Tryz.prog 9 (tblElem TO) b n D ∧ ∀ p ∈ es, ∀ z, D.atKey p.1 z = tblD TO p.2
theorem OrdAt.ext {w w' : World} {b n : Nat} {es : List (Lit × Value)} (h : OrdAt w b n es) (k : Ext w w') : OrdAt w' b n es := by
 obtain ⟨D, ⟨es', clock, hb, rest⟩, h2⟩ := h
 exact ⟨D, ⟨es', clock, k.blk hb, rest⟩, h2⟩
theorem OrdAt.made (w : World) : OrdAt (w.alloc (.map #[] 0)) w.heap.size 0 [] := ⟨_, World.ownsMap_made _ _ _ _, fun p h => by cases h⟩
theorem OrdAt.look {w : World} {b n : Nat} {es : List (Lit × Value)} (h : OrdAt w b n es) {key : Value} {kl : Lit} {v : Value} (hkey : keyOf Tryz.prog 9 key = some kl) (hm : (kl, v) ∈ es) (hv : v ∈ TO) :
   (Instr.lookup 189 (.map (some b)) key true).run Tryz.prog w = .ok (.tuple #[v, .bool true]) w := by
 obtain ⟨D, h1, h2⟩ := h
 obtain ⟨es', clock, hb, F, _, rfl⟩ := h1
 rcases Maps.fit_look true strLaw Tryz.underlying189 (zeroO w) hb F hkey with ⟨_, _, hat⟩ | ⟨e0, y, _, _, hrun, hRv, hat, _⟩
 · have a1 := hat (.lit (.int .i64 1))
   have a2 := hat (.lit (.int .i64 2))
   rw [h2 _ hm] at a1 a2
   rw [a1] at a2
   cases a2
 · have a1 := hat (.lit (.int .i64 0))
   rw [h2 _ hm] at a1
   have : e0.val = v := tblElem_inj (ps := y.2) hv (by rw [hRv, a1])
   rw [hrun, this]; rfl
section
variable {ops : Array Oper} {rest : List Oper} {o : Oper} {a : Act} {Q : Exit → Act → World → Prop} {W : World}
theorem ins_ (hgd : o.guard = none) (m k v : Operand) (hop : o.op = Op.insert 189 m k v) (b n : Nat) (es : List (Lit × Value)) (hm : a.eval m = .map (some b)) (HO : OrdAt W b n es) (hn : n < 100)
   (key val : Value) (kl : Lit) (hk : a.eval k = key) (hkey : keyOf Tryz.prog 9 key = some kl) (hl : WideAt.IsKeyLit kl) (hv : a.eval v = val) (hT : val ∈ TO) (hne : ∀ p ∈ es, ¬ p.1 = kl)
   (h : ∀ w', OrdAt w' b (n + 1) ((kl, val) :: es) → W.grownBy w' (some b) → wpList Tryz.prog ops Q rest (a.put o.dst undef) w') : wpList Tryz.prog ops Q (o :: rest) a W := by
 obtain ⟨D, h1, h2⟩ := HO
 obtain ⟨w', r1, r2, r3⟩ := h1.update strLaw Tryz.underlying189 (by unfold maxLen; omega) hkey (tblElem_mem hT)
 refine wpList_plain hgd fun K' hK' => ?_
 unfold Oper.wp
 simp [execOp, hop, hm, hk, hv, r1, Result.andThen]
 refine hK' _ _ (h w' ⟨D.put kl (tblD TO val), r2, fun p hp z => ?_⟩ r3)
 rcases List.mem_cons.1 hp with rfl | hp
 · exact atKey_put_same h1.isMap hl _ _
 · rw [atKey_put_other (hne p hp)]
   exact h2 p hp z
end
theorem ordersC (w : World) : Calls Tryz.prog 111 #[] w fun e w' => ∃ b es, e = .returned (.map (some b)) ∧ w.heap.size ≤ b ∧ OrdAt w' b 7 es ∧ (kS [99, 114, 97, 115, 104], oCrash) ∈ es ∧ Ext w w' := by
 have h0 := OrdAt.made w
 have hE0 := (Ext.refl w).alloc (.map #[] 0)
 have hmm := @run_makeMap Tryz.prog
 go_enter Tryz.func111, Tryz.ntmps111
 go_wp2_with (first | (refine ins_ rfl _ _ _ rfl w.heap.size 0 _ rfl h0 (by decide) _ oMerge _ rfl kMerge trivial rfl (by simp) (by simp [kS]) ?_; intro w1 h1 g1) | (refine ins_ rfl _ _ _ rfl w.heap.size 1 _ rfl h1 (by decide) _ oStep _ rfl kStep trivial rfl (by simp) (by simp [kS]) ?_; intro w2 h2 g2) | (refine ins_ rfl _ _ _ rfl w.heap.size 2 _ rfl h2 (by decide) _ oParts _ rfl kParts trivial rfl (by simp) (by simp [kS]) ?_; intro w3 h3 g3) | (refine ins_ rfl _ _ _ rfl w.heap.size 3 _ rfl h3 (by decide) _ oFail _ rfl kFail trivial rfl (by simp) (by simp [kS]) ?_; intro w4 h4 g4) | (refine ins_ rfl _ _ _ rfl w.heap.size 4 _ rfl h4 (by decide) _ oLimit _ rfl kLimit trivial rfl (by simp) (by simp [kS]) ?_; intro w5 h5 g5) | (refine ins_ rfl _ _ _ rfl w.heap.size 5 _ rfl h5 (by decide) _ oCrash _ rfl kCrash trivial rfl (by simp) (by simp [kS]) ?_; intro w6 h6 g6) | (refine ins_ rfl _ _ _ rfl w.heap.size 6 _ rfl h6 (by decide) _ oFiles _ rfl kFiles trivial rfl (by simp) (by simp [kS]) ?_; intro w7 h7 g7))
 go_ret
 exact ⟨w.heap.size, _, rfl, Nat.le_refl _, h7, by simp, (Ext.grown (Ext.grown (Ext.grown (Ext.grown (Ext.grown (Ext.grown (Ext.grown hE0 g1 (fun k e => by cases e; exact Nat.le_refl _)) g2 (fun k e => by cases e; exact Nat.le_refl _)) g3 (fun k e => by cases e; exact Nat.le_refl _)) g4 (fun k e => by cases e; exact Nat.le_refl _)) g5 (fun k e => by cases e; exact Nat.le_refl _)) g6 (fun k e => by cases e; exact Nat.le_refl _)) g7 (fun k e => by cases e; exact Nat.le_refl _))⟩
end K96
namespace K97
open Go Go.RowKit
open KB KB2 K35 K42 K70 K87 K88 K89 K90 K96
abbrev tableB : ByteArray := ⟨#[116, 97, 98, 108, 101]⟩
abbrev insertB : ByteArray := ⟨#[105, 110, 115, 101, 114, 116]⟩
abbrev getB : ByteArray := ⟨#[103, 101, 116]⟩
abbrev crashB : ByteArray := ⟨#[99, 114, 97, 115, 104]⟩
theorem lineTableC (F : Nat → Prop) (db : Nat) (v0 v2 v3 v4 v5 : Value) (v1 : Value) (w : World) (hb : w.heap[db]? = some (.cells #[v0, v1, v2, v3, v4, v5] 118 (0, 0))) (A : Option Addr) (c : Nat) (l : List ByteArray) (hl : rdStr.Sl F w A c (tableB :: l)) (hn : l.length ≤ 100000) (s : ByteArray) (P : World → Prop)
   (h : ∀ A' c', rdStr.Sl F w A' c' l → Calls Tryz.prog 107 #[.pointer (some ⟨db, 0, none⟩), .slice A' l.length c'] w fun e w' => e = .returned (.string s) ∧ P w') :
   Calls Tryz.prog 47 #[.pointer (some ⟨db, 0, none⟩), .slice A (l.length + 1) c] w fun e w' => e = .returned (.string s) ∧ P w' := by
 obtain ⟨A2, hrun, hs2⟩ := hl.suf elStr 1 l.length 1 (by simp) rfl (by simp)
 obtain ⟨b1, o1, rfl, hc⟩ := str_get hl (k := 0) (by simp)
 simp only [List.getElem_cons_zero, Nat.add_zero] at hc
 have HC := As.mk (h A2 (c - 1) hs2)
 have hL : (tableB :: l).length = l.length + 1 := rfl
 rw [hL] at hrun
 have n1 : (0 : Int) < (l.length : Int) + 1 := by omega
 (have p0 := bC (hb) 0; have p1 := bC (hb) 1; have p2 := bC (hb) 2; have p3 := bC (hb) 3; have p4 := bC (hb) 4; have p5 := bC (hb) 5)
 clear hl hs2 h hL hb
 go_enter Tryz.func47, Tryz.ntmps47
 go_wp2_with (fail)
 refine HC.out.mono ?_; rintro e w1 ⟨rfl, hP⟩
 go_wp2_with (fail)
 go_ret
 exact ⟨rfl, hP⟩
theorem lineInsertC (F : Nat → Prop) (db : Nat) (v0 v2 v3 v4 v5 : Value) (tg : Nat) (w : World) (hb : w.heap[db]? = some (.cells #[v0, PX tg, v2, v3, v4, v5] 118 (0, 0))) (A : Option Addr) (c : Nat) (l : List ByteArray) (hl : rdStr.Sl F w A c (insertB :: l)) (hn : l.length ≤ 100000) (s : ByteArray) (P : World → Prop)
   (h : ∀ A' c', rdStr.Sl F w A' c' l → Calls Tryz.prog 108 #[.pointer (some ⟨db, 0, none⟩), .slice A' l.length c'] w fun e w' => e = .returned (.string s) ∧ P w') :
   Calls Tryz.prog 47 #[.pointer (some ⟨db, 0, none⟩), .slice A (l.length + 1) c] w fun e w' => e = .returned (.string s) ∧ P w' := by
 obtain ⟨A2, hrun, hs2⟩ := hl.suf elStr 1 l.length 1 (by simp) rfl (by simp)
 obtain ⟨b1, o1, rfl, hc⟩ := str_get hl (k := 0) (by simp)
 simp only [List.getElem_cons_zero, Nat.add_zero] at hc
 have HC := As.mk (h A2 (c - 1) hs2)
 have hL : (insertB :: l).length = l.length + 1 := rfl
 rw [hL] at hrun
 have n1 : (0 : Int) < (l.length : Int) + 1 := by omega
 (have p0 := bC (hb) 0; have p1 := bC (hb) 1; have p2 := bC (hb) 2; have p3 := bC (hb) 3; have p4 := bC (hb) 4; have p5 := bC (hb) 5)
 clear hl hs2 h hL hb
 go_enter Tryz.func47, Tryz.ntmps47
 go_wp2_with (fail)
 refine HC.out.mono ?_; rintro e w1 ⟨rfl, hP⟩
 go_wp2_with (fail)
 go_ret
 exact ⟨rfl, hP⟩
theorem lineGetC (F : Nat → Prop) (db : Nat) (v0 v2 v3 v4 v5 : Value) (tg : Nat) (w : World) (hb : w.heap[db]? = some (.cells #[v0, PX tg, v2, v3, v4, v5] 118 (0, 0))) (A : Option Addr) (c : Nat) (l : List ByteArray) (hl : rdStr.Sl F w A c (getB :: l)) (hn : l.length ≤ 100000) (s : ByteArray) (P : World → Prop)
   (h : ∀ A' c', rdStr.Sl F w A' c' l → Calls Tryz.prog 109 #[.pointer (some ⟨db, 0, none⟩), .slice A' l.length c'] w fun e w' => e = .returned (.string s) ∧ P w') :
   Calls Tryz.prog 47 #[.pointer (some ⟨db, 0, none⟩), .slice A (l.length + 1) c] w fun e w' => e = .returned (.string s) ∧ P w' := by
 obtain ⟨A2, hrun, hs2⟩ := hl.suf elStr 1 l.length 1 (by simp) rfl (by simp)
 obtain ⟨b1, o1, rfl, hc⟩ := str_get hl (k := 0) (by simp)
 simp only [List.getElem_cons_zero, Nat.add_zero] at hc
 have HC := As.mk (h A2 (c - 1) hs2)
 have hL : (getB :: l).length = l.length + 1 := rfl
 rw [hL] at hrun
 have n1 : (0 : Int) < (l.length : Int) + 1 := by omega
 (have p0 := bC (hb) 0; have p1 := bC (hb) 1; have p2 := bC (hb) 2; have p3 := bC (hb) 3; have p4 := bC (hb) 4; have p5 := bC (hb) 5)
 clear hl hs2 h hL hb
 go_enter Tryz.func47, Tryz.ntmps47
 go_wp2_with (fail)
 refine HC.out.mono ?_; rintro e w1 ⟨rfl, hP⟩
 go_wp2_with (fail)
 go_ret
 exact ⟨rfl, hP⟩
theorem crashDC (F : Nat → Prop) (db dg mg : Nat) (hdF : F db) (D : Dsk) (d1 d2 d3 d4 d5 : Value) (w : World) (h : DiskAt F w dg mg D) (hcl : D.clean = true) (hsafe : ∀ p ∈ D.M, ∃ fb : List Int, D.files[p.2]? = some (fb, (fb.length : Int)))
   (hb : w.heap[db]? = some (.cells #[BX dg, d1, d2, d3, d4, d5] 118 (0, 0))) (A : Option Addr) (c : Nat) (ch : Nat) (hch : ch ≤ 999999) (ts : List Int) (htv : ∀ t ∈ ts, 0 ≤ t ∧ t ≤ 999999) (htl : ts.length ≤ 1000) (hl : (rdInt .i64).Sl F w A c ((ch : Int) :: ts)) (hF : ∀ k, F k → k < w.heap.size) :
   Calls Tryz.prog 203 #[.pointer (some ⟨db, 0, none⟩), .slice A (ts.length + 1) c] w fun e w' => e = .returned (.string ⟨#[111, 107]⟩) ∧ ∃ dg' mg', w.heap.size ≤ dg' ∧ w.heap.size ≤ mg' ∧ DiskAt F w' dg' mg' (crD D) ∧ w'.heap[db]? = some (.cells #[BX dg', .pointer none, d2, d3, d4, d5] 118 (0, 0)) ∧ Keep (fun k => k = db) w w' := by
 obtain ⟨A2, hrun, hs2⟩ := hl.suf K7.elInt 1 ts.length 1 (by simp) rfl (by simp)
 obtain ⟨b1, o1, rfl, hc⟩ := int_get hl (k := 0) (by simp)
 simp only [List.getElem_cons_zero, Nat.add_zero] at hc
 have hL : ((ch : Int) :: ts).length = ts.length + 1 := rfl
 rw [hL] at hrun
 have n1 : (0 : Int) < (ts.length : Int) + 1 := by omega
 have hcr := fun W (hW : Ext w W) => crashC F dg mg D W (h.ext hW) hcl hsafe ch hch A2 (c - 1) ts (Rd.Sl.ext hs2 hW) htl htv (FExt hF hW)
 have HCR := As.mk hcr
 have HB := As.mk hb
 (have p0 := bC (hb) 0; have pf0 := bF (hb) 0; have p1 := bC (hb) 1; have pf1 := bF (hb) 1; have p2 := bC (hb) 2; have pf2 := bF (hb) 2; have p3 := bC (hb) 3; have pf3 := bF (hb) 3; have p4 := bC (hb) 4; have pf4 := bF (hb) 4; have p5 := bC (hb) 5; have pf5 := bF (hb) 5)
 clear hl hs2 hcr hL hb h hsafe htv
 go_enter Tryz.func203, Tryz.ntmps203
 go_wp2_with (fail)
 go_region_law (first | (go_simp; go_at_call 282; with_reducible refine Calls.mono (HCR.out _ ?_) ?_; exact XE; rintro e w2 ⟨dg', mg', rfl, hd1, hd2, hD2, hE2⟩; have hx2 := Ext.trans (a := w) XE hE2; have hb2 := hx2.blk HB.out; (have q0 := bC (hb2) 0; have qf0 := bF (hb2) 0; have q1 := bC (hb2) 1; have qf1 := bF (hb2) 1; have q2 := bC (hb2) 2; have qf2 := bF (hb2) 2; have q3 := bC (hb2) 3; have qf3 := bF (hb2) 3; have q4 := bC (hb2) 4; have qf4 := bF (hb2) 4; have q5 := bC (hb2) 5; have qf5 := bF (hb2) 5); dsimp only))
 all_goals
   (try simp only [Exit.inBlock, Exit.then])
   go_wp2_with (fail)
   refine (toldC _).mono ?_; rintro e w3 ⟨rfl, rfl⟩
   go_wp2_with (fail)
   go_ret
   have P1 := bS (bS hb2 0 (BX dg')) 1 (.pointer none)
   have K1 := (kS1 w2 db 0 (BX dg')).trans (kS1 _ db 1 (.pointer none))
   refine ⟨rfl, dg', mg', Nat.le_trans (Ext.size (w := w) XE) hd1, Nat.le_trans (Ext.size (w := w) XE) hd2, ?_, ?_, ?_⟩
   · first | exact hD2.keep (K1.mono (fun _ _ q => by subst q; exact hdF)) | exact (hD2.keep (K1.mono (fun _ _ q => by subst q; exact hdF))).ext (Ext.refl _).drew
   · first | exact P1 | exact (Ext.refl _).drew.blk P1
   · first | exact (hx2.keep _).trans K1 | exact ((hx2.keep _).trans K1).post (Ext.refl _).drew
theorem lineCrashC (F : Nat → Prop) (db : Nat) (v0 v1 v2 v3 v4 v5 : Value) (w : World) (hb : w.heap[db]? = some (.cells #[v0, v1, v2, v3, v4, v5] 118 (0, 0))) (A : Option Addr) (c : Nat) (l : List ByteArray) (hl : rdStr.Sl F w A c (crashB :: l)) (hn : l.length ≤ 1000) (ns : List Int) (hs : SaysL w l ns) (h1 : 1 ≤ ns.length) (hF : ∀ k, F k → k < w.heap.size) (s : ByteArray) (P : World → Prop)
   (h : ∀ W A' c', Ext w W → (rdInt .i64).Sl F W A' c' ns → Calls Tryz.prog 203 #[.pointer (some ⟨db, 0, none⟩), .slice A' ns.length c'] W fun e w' => e = .returned (.string s) ∧ P w') :
   Calls Tryz.prog 47 #[.pointer (some ⟨db, 0, none⟩), .slice A (l.length + 1) c] w fun e w' => e = .returned (.string s) ∧ P w' := by
 obtain ⟨A2, hrun, hs2⟩ := hl.suf elStr 1 l.length 1 (by simp) rfl (by simp)
 obtain ⟨b1, o1, rfl, hc⟩ := str_get hl (k := 0) (by simp)
 simp only [List.getElem_cons_zero, Nat.add_zero] at hc
 have HC := As.mk h
 have hL : (crashB :: l).length = l.length + 1 := rfl
 rw [hL] at hrun
 have n1 : (0 : Int) < (l.length : Int) + 1 := by omega
 have HNUM := As.mk (numbersC F A2 (c - 1) l ns w hs2 (by omega) hs hF)
 have hnl : As (ns.length = l.length) := ⟨hs.1.symm⟩
 have hns : ns.length ≤ 1000 := by have := hs.1; omega
 (have p0 := bC (hb) 0; have p1 := bC (hb) 1; have p2 := bC (hb) 2; have p3 := bC (hb) 3; have p4 := bC (hb) 4; have p5 := bC (hb) 5)
 clear hl hs2 h hL hb hs
 go_enter Tryz.func47, Tryz.ntmps47
 go_wp2_with (fail)
 refine HNUM.out.mono ?_; rintro e w1 ⟨v1, rfl, hown1, hE1⟩
 obtain ⟨An, cn, rfl, hns1⟩ := hown1.shut hF
 have hc1 := hE1.cell hc
 clear hc hown1 HNUM p0 p1 p2 p3 p4 p5
 go_upto_region 8 with (fail)
 go_cut [7, 8] (fun r ok wx => ∃ zb, r = .pointer (some ⟨zb, 0, none⟩) ∧ ok = .bool true ∧ wx.heap[zb]? = some (.cells #[.int .i64 1, .int .i64 1048576, .bool false, .func (.func 203) #[] #[]] 187 (0, 0)) ∧ Ext w1 wx)
 case first =>
   have hc1a := ((Ext.refl w1).alloc (.cells #[.int .i64 0, .int .i64 0, .bool false, .nilFunc] 187)).cell hc1
   go_region_law (first | (go_simp; go_at_call 111; refine (ordersC _).mono ?_; rintro e w2 ⟨bm, es, rfl, hbm, hO, hin, hE2⟩; have hx2 := Ext.trans (a := w1) XE hE2; have hc2 := hx2.cell hc1; have hlk := hO.look kCrash hin (by simp); have B4 := hE2.blk (bN w1 (.cells #[.int .i64 0, .int .i64 0, .bool false, .nilFunc] 187)); (have z0 := bC (B4) 0; have zf0 := bF (B4) 0; have z1 := bC (B4) 1; have zf1 := bF (B4) 1; have z2 := bC (B4) 2; have zf2 := bF (B4) 2; have z3 := bC (B4) 3; have zf3 := bF (B4) 3); dsimp only) | (go_simp; go_at_call 111; refine (ordersC _).mono ?_; rintro e w2 ⟨bm, es, rfl, hbm, hO, hin, hE2⟩; have hx2 := Ext.trans (a := w1) XE hE2; have hc2 := hx2.cell hc1; have hlk := hO.look kCrash hin (by simp); have B4 := bN w2 (.cells #[.int .i64 0, .int .i64 0, .bool false, .nilFunc] 187); have hO2 := hO.ext ((Ext.refl w2).alloc (.cells #[.int .i64 0, .int .i64 0, .bool false, .nilFunc] 187)); have hlk2 := hO2.look kCrash hin (by simp); have hc3 := ((Ext.refl w2).alloc (.cells #[.int .i64 0, .int .i64 0, .bool false, .nilFunc] 187)).cell hc2; (have z0 := bC (B4) 0; have zf0 := bF (B4) 0; have z1 := bC (B4) 1; have zf1 := bF (B4) 1; have z2 := bC (B4) 2; have zf2 := bF (B4) 2; have z3 := bC (B4) 3; have zf3 := bF (B4) 3); dsimp only))
   all_goals
     (try simp only [Exit.inBlock, Exit.then])
     go_wp2_with (fail)
     go_meet
     first
       | with_reducible exact ⟨w2.heap.size, rfl, rfl, bN _ _, hx2.alloc _⟩
       | (have P4 := put4 B4 (.int .i64 1) (.int .i64 1048576) (.bool false) (.func (.func 203) #[] #[]); have q := hx2.keepNew P4.2 (fun j q => Nat.le_of_eq q.symm); first | with_reducible exact ⟨w1.heap.size, rfl, rfl, P4.1, q⟩ | with_reducible exact ⟨w1.heap.size, rfl, rfl, (Ext.refl _).drew.blk P4.1, q.drew⟩)
 case rest =>
   obtain ⟨zb, rfl, rfl, hz, hE2⟩ := hcut
   generalize wc = w2 at *
   (have z0 := bC (hz) 0; have z1 := bC (hz) 1; have z2 := bC (hz) 2; have z3 := bC (hz) 3)
   have HC2 := As.mk (HC.out w2 An cn (hE1.trans hE2) (Rd.Sl.ext hns1 hE2))
   have m1 : ¬ (ns.length : Int) < 1 := by omega
   have m2 : ¬ (1048576 : Int) < (ns.length : Int) := by omega
   clear hc1 hz hns1
   go_wp2_with (fail)
   refine HC2.out.mono ?_; rintro e w3 ⟨rfl, hP⟩
   go_wp2_with (fail)
   go_ret
   exact ⟨rfl, hP⟩
end K97
namespace K101
open Go Go.RowKit Go.Shelf Go.Proofs
open KB KB2 K35 K38 K42 K75 K89 K98 K99 K100
attribute [local go_sem] Oper.semAt_some
structure Desk (db : Nat) (outs : List (List UInt8)) (ws : List (List ByteArray)) (S : Nat → (Nat → Prop) → (Nat → Prop) → World → Prop) : Prop where
 keep : ∀ k O T W W', S k O T W → Keep O W W' → S k O T W'
 narrow : ∀ k O O' T W, S k O T W → (∀ q, q < W.heap.size → O' q → O q) → S k O' T W
 own : ∀ k O T W, S k O T W → ∀ q, T q → q < W.heap.size ∧ ¬ O q
 line : ∀ k (hk : k < ws.length) (hk2 : k < outs.length) O T W A c, S k O T W → (∀ q, O q → q < W.heap.size) → rdStr.Sl (fun q => O q ∨ T q) W A c ws[k] →
   Calls Tryz.prog 47 #[BX db, .slice A ws[k].length c] W fun e W' => e = .returned (.string (BA outs[k])) ∧ ∃ T', S (k + 1) O T' W' ∧ Keep T W W' ∧ ∀ q, T' q → T q ∨ W.heap.size ≤ q
def toldL (outs : List (List UInt8)) : List UInt8 := (outs.map (fun o => o ++ [10])).flatten
theorem splitSeqC (s : ByteArray) (w : World) : Calls Tryz.prog 44 #[.string s, .string ⟨#[10]⟩] w fun e w' => e = .returned (.func (.func 178) #[] #[.pointer (some ⟨w.heap.size + 1, 0, none⟩), .pointer (some ⟨w.heap.size, 0, none⟩), .pointer (some ⟨w.heap.size + 2, 0, none⟩)]) ∧
   w' = ((w.alloc (.cells #[.string s] 9)).alloc (.cells #[.string ⟨#[10]⟩] 9)).alloc (.cells #[.int .i64 0] 3) := by
 have h2 : Calls Tryz.prog 102 #[.string s, .string ⟨#[10]⟩, .int .i64 0] w fun e w' => e = .returned (.func (.func 178) #[] #[.pointer (some ⟨w.heap.size + 1, 0, none⟩), .pointer (some ⟨w.heap.size, 0, none⟩), .pointer (some ⟨w.heap.size + 2, 0, none⟩)]) ∧
   w' = ((w.alloc (.cells #[.string s] 9)).alloc (.cells #[.string ⟨#[10]⟩] 9)).alloc (.cells #[.int .i64 0] 3) := by
   go_enter Tryz.func102, Tryz.ntmps102
   go_wp2_with (fail)
   go_ret
   exact ⟨rfl, rfl⟩
 have H2 := As.mk h2
 go_enter Tryz.func44, Tryz.ntmps44
 go_wp2_with (fail)
 refine H2.out.mono ?_; rintro e w1 ⟨rfl, rfl⟩
 go_wp2_with (fail)
 go_ret
 exact ⟨rfl, rfl⟩
theorem alloc7 (w : World) (o0 o1 o2 o3 o4 o5 o6 : Obj) :
   (((((((w.alloc o0).alloc o1).alloc o2).alloc o3).alloc o4).alloc o5).alloc o6).heap.size = w.heap.size + 7 ∧
   (((((((w.alloc o0).alloc o1).alloc o2).alloc o3).alloc o4).alloc o5).alloc o6).heap[w.heap.size]? = some o0 ∧
   (((((((w.alloc o0).alloc o1).alloc o2).alloc o3).alloc o4).alloc o5).alloc o6).heap[w.heap.size + 1]? = some o1 ∧
   (((((((w.alloc o0).alloc o1).alloc o2).alloc o3).alloc o4).alloc o5).alloc o6).heap[w.heap.size + 2]? = some o2 ∧
   (((((((w.alloc o0).alloc o1).alloc o2).alloc o3).alloc o4).alloc o5).alloc o6).heap[w.heap.size + 3]? = some o3 ∧
   (((((((w.alloc o0).alloc o1).alloc o2).alloc o3).alloc o4).alloc o5).alloc o6).heap[w.heap.size + 4]? = some o4 ∧
   (((((((w.alloc o0).alloc o1).alloc o2).alloc o3).alloc o4).alloc o5).alloc o6).heap[w.heap.size + 5]? = some o5 ∧
   (((((((w.alloc o0).alloc o1).alloc o2).alloc o3).alloc o4).alloc o5).alloc o6).heap[w.heap.size + 6]? = some o6 ∧
   Ext w (((((((w.alloc o0).alloc o1).alloc o2).alloc o3).alloc o4).alloc o5).alloc o6) := by
 have e : ∀ (W : World) (o : Obj), (W.alloc o).heap.size = W.heap.size + 1 := fun W o => World.size_alloc W o
 refine ⟨by simp, ?_, ?_, ?_, ?_, ?_, ?_, ?_, (((((((Ext.refl w).alloc _).alloc _).alloc _).alloc _).alloc _).alloc _).alloc _⟩
 · exact bO2 (bO2 (bO2 (bO2 (bO2 (bO2 (bN w o0))))))
 · have h := bN (w.alloc o0) o1
   simp only [World.size_alloc] at h
   exact bO2 (bO2 (bO2 (bO2 (bO2 h))))
 · have h := bN ((w.alloc o0).alloc o1) o2
   simp only [World.size_alloc] at h
   exact bO2 (bO2 (bO2 (bO2 h)))
 · have h := bN (((w.alloc o0).alloc o1).alloc o2) o3
   simp only [World.size_alloc] at h
   exact bO2 (bO2 (bO2 h))
 · have h := bN ((((w.alloc o0).alloc o1).alloc o2).alloc o3) o4
   simp only [World.size_alloc] at h
   exact bO2 (bO2 h)
 · have h := bN (((((w.alloc o0).alloc o1).alloc o2).alloc o3).alloc o4) o5
   simp only [World.size_alloc] at h
   exact bO2 h
 · have h := bN ((((((w.alloc o0).alloc o1).alloc o2).alloc o3).alloc o4).alloc o5) o6
   simp only [World.size_alloc] at h
   exact h
def Ov (y : Nat) (v : Value) : Nat → Prop := fun q => (y < q ∧ q ≤ y + 8) ∨ v.ownBlock = some q
def Iv (B y : Nat) (outs : List (List UInt8)) (S : Nat → (Nat → Prop) → (Nat → Prop) → World → Prop) (w : World) (k : Nat) (W : World) : Prop :=
 ∃ v T, W.heap[y + 1]? = some (.cells #[BX y] 116 (0, 0)) ∧ BAt B W (y + 2) v (toldL (outs.take k)) ∧ W.heap[y + 3]? = some (.cells #[.int .i64 k] 3 (0, 0)) ∧ S k (Ov y v) T W ∧ (∀ q, T q → B ≤ q) ∧ (∀ q, v.ownBlock = some q → y + 9 ≤ q) ∧ Ext w W ∧ y + 9 ≤ W.heap.size
theorem bat_keep {B : Nat} {w w' : World} {b : Nat} {v : Value} {l : List UInt8} {G : Nat → Prop} (h : BAt B w b v l) (k : Keep G w w') (hb : ¬ G b) (hv : ∀ q, v.ownBlock = some q → ¬ G q) : BAt B w' b v l := by
 obtain ⟨h1, ⟨p, hp, h2⟩, h3, h4⟩ := h
 exact ⟨h1, ⟨p, hp, k.blk hb h2⟩, raw_keep h3 (fun g hg => k.block g (h3.lt g hg).2 (hv g hg)), h4⟩
theorem iv_keep {B y : Nat} {outs : List (List UInt8)} {ws : List (List ByteArray)} {S : Nat → (Nat → Prop) → (Nat → Prop) → World → Prop} {w : World} {k : Nat} {W W' : World} (hD : Desk y outs ws S) (hBy : B ≤ y) (hwB : w.heap.size ≤ B) (l : Nat) (h1 : y + 4 ≤ l) (h2 : l ≤ y + 8) (h : Iv B y outs S w k W) (K : Keep (fun q => q = l) W W') : Iv B y outs S w k W' := by
 obtain ⟨v, T, a1, a2, a3, a4, a5, a6, a7, a8⟩ := h
 exact ⟨v, T, K.blk (by omega) a1, bat_keep a2 K (by omega) (fun q hq e => by have := a6 q hq; omega), K.blk (by omega) a3, hD.keep _ _ _ _ _ a4 (K.mono (fun q _ e => by subst e; exact .inl ⟨by omega, h2⟩)), a5, a6, a7.keepNew K (fun q e => by omega), Nat.le_trans a8 K.size⟩
theorem keep_put (W : World) (l : Nat) (o : Obj) : Keep (fun q => q = l) W (W.putObj l o) := ⟨rfl, rfl, rfl, by simp [World.putObj], fun k _ hk => World.putObj_heap_other hk⟩
end K101
end Go.Proofs.YtbjeejimedhniaaGreatDoor
namespace Go.Proofs
open Go.Shelf
def Tryz.laysC174_ren : Go.Shelf.Ren := ⟨fun | 174 => 269 | 247 => 329 | 245 => 330 | 287 => 331 | 279 => 359 | 280 => 360 | 281 => 361 | 282 => 362 | 321 => 363 | 322 => 364 | 316 => 396 | 171 => 126 | 205 => 397 | 243 => 227 | 246 => 305 | 283 => 342 | 284 => 343 | 285 => 344 | 286 => 345 | 129 => 318 | 317 => 368 | 318 => 369 | 319 => 370 | 320 => 371 | 337 => 399 | 338 => 400 | n => n, fun | 9 => 9 | 3 => 3 | 2 => 2 | 75 => 129 | 85 => 351 | 4 => 4 | 167 => 420 | 5 => 5 | 53 => 115 | 175 => 353 | 46 => 347 | 168 => 421 | 37 => 120 | 0 => 0 | 210 => 451 | 21 => 21 | 127 => 191 | 145 => 469 | 143 => 467 | 171 => 402 | 173 => 404 | 212 => 427 | 51 => 23 | 20 => 20 | 213 => 428 | 232 => 470 | 233 => 471 | 80 => 133 | n => n, fun | 15 => 4 | 16 => 5 | 17 => 3 | 18 => 6 | 19 => 7 | n => n⟩
theorem Tryz.laysC174 : Go.Proofs.LaysC.n174 Tryz.prog Tryz.laysC174_ren := {
  mixed := by kernel_rfl
  f129 := Tryz.func318.trans (congrArg some (by kernel_rfl))
  f171 := Tryz.func126.trans (congrArg some (by kernel_rfl))
  f174 := Tryz.func269.trans (congrArg some (by kernel_rfl))
  f205 := Tryz.func397.trans (congrArg some (by kernel_rfl))
  f243 := Tryz.func227.trans (congrArg some (by kernel_rfl))
  f245 := Tryz.func330.trans (congrArg some (by kernel_rfl))
  f246 := Tryz.func305.trans (congrArg some (by kernel_rfl))
  f247 := Tryz.func329.trans (congrArg some (by kernel_rfl))
  f279 := Tryz.func359.trans (congrArg some (by kernel_rfl))
  f280 := Tryz.func360.trans (congrArg some (by kernel_rfl))
  f281 := Tryz.func361.trans (congrArg some (by kernel_rfl))
  f282 := Tryz.func362.trans (congrArg some (by kernel_rfl))
  f283 := Tryz.func342.trans (congrArg some (by kernel_rfl))
  f284 := Tryz.func343.trans (congrArg some (by kernel_rfl))
  f285 := Tryz.func344.trans (congrArg some (by kernel_rfl))
  f286 := Tryz.func345.trans (congrArg some (by kernel_rfl))
  f287 := Tryz.func331.trans (congrArg some (by kernel_rfl))
  f316 := Tryz.func396.trans (congrArg some (by kernel_rfl))
  f317 := Tryz.func368.trans (congrArg some (by kernel_rfl))
  f318 := Tryz.func369.trans (congrArg some (by kernel_rfl))
  f319 := Tryz.func370.trans (congrArg some (by kernel_rfl))
  f320 := Tryz.func371.trans (congrArg some (by kernel_rfl))
  f321 := Tryz.func363.trans (congrArg some (by kernel_rfl))
  f322 := Tryz.func364.trans (congrArg some (by kernel_rfl))
  f337 := Tryz.func399.trans (congrArg some (by kernel_rfl))
  f338 := Tryz.func400.trans (congrArg some (by kernel_rfl))
  t0 := Tryz.underlying0
  a0 := Tryz.isAgg0
  z0 := Tryz.sizeOf0
  v0 := Tryz.zeroValue0
  t2 := Tryz.underlying2
  a2 := Tryz.isAgg2
  z2 := Tryz.sizeOf2
  v2 := Tryz.zeroValue2
  t3 := Tryz.underlying3
  a3 := Tryz.isAgg3
  z3 := Tryz.sizeOf3
  v3 := Tryz.zeroValue3
  t4 := Tryz.underlying4
  a4 := Tryz.isAgg4
  z4 := Tryz.sizeOf4
  v4 := Tryz.zeroValue4
  t5 := Tryz.underlying5
  a5 := Tryz.isAgg5
  z5 := Tryz.sizeOf5
  v5 := Tryz.zeroValue5
  t9 := Tryz.underlying9
  a9 := Tryz.isAgg9
  z9 := Tryz.sizeOf9
  v9 := Tryz.zeroValue9
  t20 := Tryz.underlying20
  a20 := Tryz.isAgg20
  z20 := Tryz.sizeOf20
  v20 := Tryz.zeroValue20
  t21 := Tryz.underlying21
  a21 := Tryz.isAgg21
  z21 := Tryz.sizeOf21
  v21 := Tryz.zeroValue21
  t37 := Tryz.underlying120
  a37 := Tryz.isAgg120
  z37 := Tryz.sizeOf120
  v37 := Tryz.zeroValue120
  t46 := Tryz.underlying347
  a46 := Tryz.isAgg347
  z46 := Tryz.sizeOf347
  v46 := Tryz.zeroValue347
  t51 := Tryz.underlying23
  a51 := Tryz.isAgg23
  z51 := Tryz.sizeOf23
  v51 := Tryz.zeroValue23
  t53 := Tryz.underlying115
  a53 := Tryz.isAgg115
  z53 := Tryz.sizeOf115
  v53 := Tryz.zeroValue115
  t75 := Tryz.underlying129
  a75 := Tryz.isAgg129
  z75 := Tryz.sizeOf129
  v75 := Tryz.zeroValue129
  t85 := Tryz.underlying351
  a85 := Tryz.isAgg351
  z85 := Tryz.sizeOf351
  v85 := Tryz.zeroValue351
  t127 := Tryz.underlying191
  a127 := Tryz.isAgg191
  z127 := Tryz.sizeOf191
  v127 := Tryz.zeroValue191
  t143 := Tryz.underlying467
  a143 := Tryz.isAgg467
  z143 := Tryz.sizeOf467
  v143 := Tryz.zeroValue467
  t145 := Tryz.underlying469
  a145 := Tryz.isAgg469
  z145 := Tryz.sizeOf469
  v145 := Tryz.zeroValue469
  t167 := Tryz.underlying420
  a167 := Tryz.isAgg420
  z167 := Tryz.sizeOf420
  v167 := Tryz.zeroValue420
  t168 := Tryz.underlying421
  a168 := Tryz.isAgg421
  z168 := Tryz.sizeOf421
  v168 := Tryz.zeroValue421
  t171 := Tryz.underlying402
  a171 := Tryz.isAgg402
  z171 := Tryz.sizeOf402
  v171 := Tryz.zeroValue402
  t173 := Tryz.underlying404
  a173 := Tryz.isAgg404
  z173 := Tryz.sizeOf404
  v173 := Tryz.zeroValue404
  t175 := Tryz.underlying353
  a175 := Tryz.isAgg353
  z175 := Tryz.sizeOf353
  v175 := Tryz.zeroValue353
  t210 := Tryz.underlying451
  a210 := Tryz.isAgg451
  z210 := Tryz.sizeOf451
  v210 := Tryz.zeroValue451
  t212 := Tryz.underlying427
  a212 := Tryz.isAgg427
  z212 := Tryz.sizeOf427
  v212 := Tryz.zeroValue427
  t213 := Tryz.underlying428
  a213 := Tryz.isAgg428
  z213 := Tryz.sizeOf428
  t232 := Tryz.underlying470
  a232 := Tryz.isAgg470
  z232 := Tryz.sizeOf470
  v232 := Tryz.zeroValue470
  t233 := Tryz.underlying471
  a233 := Tryz.isAgg471
  z233 := Tryz.sizeOf471
  v233 := Tryz.zeroValue471
  g15 := by kernel_rfl
  g16 := by kernel_rfl
  g17 := by kernel_rfl
  g18 := by kernel_rfl
  g19 := by kernel_rfl
  t80 := Tryz.underlying133
  a80 := Tryz.isAgg133
  z80 := Tryz.sizeOf133
  v80 := Tryz.zeroValue133
  i0 := by kernel_rfl
  i2 := by kernel_rfl
  i3 := by kernel_rfl
  i4 := by kernel_rfl
  i5 := by kernel_rfl
  i9 := by kernel_rfl
  i20 := by kernel_rfl
  i21 := by kernel_rfl
  i37 := by kernel_rfl
  i46 := by kernel_rfl
  i51 := by kernel_rfl
  i53 := by kernel_rfl
  i75 := by kernel_rfl
  i80 := by kernel_rfl
  i85 := by kernel_rfl
  i127 := by kernel_rfl
  i143 := by kernel_rfl
  i145 := by kernel_rfl
  i167 := by kernel_rfl
  i168 := by kernel_rfl
  i171 := by kernel_rfl
  i173 := by kernel_rfl
  i175 := by kernel_rfl
  i210 := by kernel_rfl
  i212 := by kernel_rfl
  i232 := by kernel_rfl
  i233 := by kernel_rfl
  m15 := by kernel_rfl
  m16 := by kernel_rfl
  m17 := by kernel_rfl
  m18 := by kernel_rfl
  m19 := by kernel_rfl
  c0 := by kernel_rfl
  c2 := by kernel_rfl
  c3 := by kernel_rfl
  c4 := by kernel_rfl
  c5 := by kernel_rfl
  c9 := by kernel_rfl
  c20 := by kernel_rfl
  c21 := by kernel_rfl
  c37 := by kernel_rfl
  c46 := by kernel_rfl
  c51 := by kernel_rfl
  c53 := by kernel_rfl
  c75 := by kernel_rfl
  c80 := by kernel_rfl
  c85 := by kernel_rfl
  c127 := by kernel_rfl
  c143 := by kernel_rfl
  c145 := by kernel_rfl
  c167 := by kernel_rfl
  c168 := by kernel_rfl
  c171 := by kernel_rfl
  c173 := by kernel_rfl
  c175 := by kernel_rfl
  c210 := by kernel_rfl
  c212 := by kernel_rfl
  c213 := by kernel_rfl
  c232 := by kernel_rfl
  c233 := by kernel_rfl }
open Go.RowKit in
theorem Tryz.strconv_ParseInt_10_at64_ok (s : ByteArray) (hmax : s.size ≤ 9223372036854775806) (v : Int) (h : Lib.parseIntB 64 s.data.toList = .ok v) (w : World) :
    Calls Tryz.prog 269 #[.string s, .int .i64 10, .int .i64 64] w fun e w' => e = .returned (.tuple #[.int .i64 v, .nilIface]) ∧ (w' = w ∨ ∃ t, w' = Lib.bytesWorld w 5 t) := Any.strconv_ParseInt_10_at64_ok Tryz.laysC174 s hmax v h w
end Go.Proofs
namespace Go.Proofs.YtbjeejimedhniaaGreatDoor
namespace K102
open Go Go.RowKit
open KB K2 K88 K89
theorem bytesWorld_ext (w : World) (e : TypeId) (t : ByteArray) : Ext w (Lib.bytesWorld w e t) := by
 exact ⟨rfl, rfl, rfl, by rw [Lib.bytesWorld_size]; omega, fun k hk => Lib.bytesWorld_at_old w e t k hk⟩
theorem says_small (i : Nat) (hi : i < 10) (w : World) : Says w 1 (BA [UInt8.ofNat (48 + i)]) i := by
 have hd : Lib.decDigits i = [UInt8.ofNat (48 + i)] := by rw [Lib.decDigits, dif_pos hi]
 have hp : Lib.parseIntB 64 (BA [UInt8.ofNat (48 + i)]).data.toList = .ok (i : Int) := by
   have : ∀ j : Fin 10, Lib.parseIntB 64 [UInt8.ofNat (48 + j.val)] = .ok (j.val : Int) := by decide
   exact this ⟨i, hi⟩
 refine ⟨⟨by omega, by omega⟩, fun e => ?_, .inl ⟨rfl, fun W hW => ?_, fun W hW => ?_⟩⟩
 · have := congrArg ByteArray.size e
   simp [ByteArray.size] at this
 · refine (Tryz.strconv_ParseInt_10_at64_ok _ (by show 1 ≤ _; omega) _ hp W).mono ?_
   rintro e w' ⟨rfl, rfl | ⟨t, rfl⟩⟩
   · exact ⟨rfl, Ext.refl _⟩
   · exact ⟨rfl, bytesWorld_ext _ _ _⟩
 · refine (Tryz.strconv_FormatInt_10_small i (by omega) W).mono ?_
   rintro e w' ⟨rfl, rfl⟩
   exact ⟨by rw [hd], Ext.refl _⟩
end K102
namespace K76
open Go Go.RowKit Go.Maps Go.Shelf Go.Proofs
open KB KB2 K1 K7 K9 K24 K25 K31
attribute [local go_sem] Oper.semAt_some
abbrev PX (g : Nat) : Value := .pointer (some ⟨g, 0, none⟩)
theorem vals0 (F : Fence) (n : Nat) (h10 : F.fn 317) (hro : F.round = none) (hn : 1 ≤ n) (Bm : Nat) (A : Option Addr) (c : Nat) (w : World) (hBm : Bm < w.heap.size) (hm : w.cell? ⟨Bm, 0, none⟩ = some (.slice A 0 c)) :
   SeqStopsK F n Tryz.prog 317 #[PX Bm] (fun z : Int => #[.int .i64 z]) KeepsWalks (fun ss => ss = []) (fun _ => True) 0 w := fun l J Jx W hW hJ _ hY h0 => by
 have hm' := (hW.cell (p := ⟨Bm, 0, none⟩) hBm).trans hm
 show CallsIn F n Tryz.prog 317 #[.func (.yield l) #[] #[], PX Bm] W _
 refine callsIn_of_wp Tryz.func317 rfl h10 ?_ hro
 simp only [Tryz.ntmps317, List.size_toArray, List.length_cons, List.length_nil, Nat.reduceAdd, Nat.reduceSub, Array.replicate_succ, Array.replicate_zero, List.push_toArray, List.append_toArray, List.nil_append, List.cons_append]
 gi_wp2
 gi_loopw [7] (fun i wr => i = .int .i64 0 ∧ wr = W) (fun _ _ => 0)
 case atStart => exact ⟨rfl, rfl⟩
 case round =>
   obtain ⟨rfl, rfl⟩ := hrel
   gi_wp2
   go_end0
   exact ⟨⟨_, rfl⟩, .inl ⟨[], rfl, h0⟩⟩
theorem infoI : (Tryz.prog.info? 3).map (fun i => (i.zero, i.size, i.bytes)) = some (some (.int .i64 0), 1, 8) := by kernel_rfl
theorem appendSeq0 (F : Fence) (n : Nat) (h3 : F.fn 350) (h10 : F.fn 317) (hro : F.round = none) (hn : 3 ≤ n) (Bm : Nat) (A : Option Addr) (c : Nat) (w : World) (hBm : Bm < w.heap.size) (hm : w.cell? ⟨Bm, 0, none⟩ = some (.slice A 0 c)) :
   CallsIn F n Tryz.prog 350 #[.slice none 0 0, .func (.func 317) #[] #[PX Bm]] w fun e W' => ∃ (v : Value), e = .returned v ∧ W'.ownsRow w.heap.size 3 1 v 0 [] ∧ Below w.heap.size w W' := by
 have h1 : 1 ≤ n := by omega
 obtain ⟨i0, hi, hz0, hz1, hz2⟩ := info_parts infoI
 refine callsIn_of_wp_marks Tryz.func350 rfl h3 ?_ hro
 simp only [Tryz.ntmps350, List.size_toArray, List.length_cons, List.length_nil, Nat.reduceAdd, Nat.reduceSub, Array.replicate_succ, Array.replicate_zero, List.push_toArray, List.append_toArray, List.nil_append, List.cons_append]
 gi_wp2
 have bO := Boxed.new w 25 (.slice none 0 0)
 have hB0 : Below w.heap.size w (w.alloc (.cells #[.slice none 0 0] 25)) := (Below.refl _ w).alloc (Nat.le_refl _) _
 refine wpIn_rangeFunc_ownH hro h1 (gf := 317) (lb := #[PX Bm]) rfl h10 (enters_of Tryz.func317 (by kernel_rfl) rfl)
   (vals0 F (n - 1) h10 hro (by omega) Bm A c _ (by simp; omega) ((hB0.cell (p := ⟨Bm, 0, none⟩) hBm).trans hm)) walksK_t walksK_b (Below.refl _ _) (fun _ => rfl)
   (fun pre W => (∃ v, Boxed W w.heap.size 25 v ∧ W.ownsRow w.heap.size 3 1 v pre.length (pre.map (Value.int .i64)) ∧ True) ∧ Below w.heap.size w W)
   (fun _ _ _ => False)
   (OwnFrom.and (Own.from (holdsRow_own w.heap.size w.heap.size 25 3 1 (fun pre : List Int => pre.length) (fun pre => pre.map (Value.int .i64)) (fun pre v => True)) _) (ownFrom_below (Nat.le_refl _) (by simp)))
   (fun _ _ _ _ _ hs _ _ => hs)
   ⟨⟨_, bO, World.ownsRow_nil _ _ _ _, trivial⟩, hB0⟩
   (fun x a' W => True)
   (fun x a' _ X Y row hs hg hr => trivial)
   ?assign ?body ?done ?stop
 case assign =>
   rintro l pre x W K ⟨⟨v, hv, hrow, _⟩, hB1⟩ hK
   gi_wp2
   exact hK _ _ ((KeepsOthers.refl _).from _) (KeepsWalks.refl _) ⟨⟨v, hv, hrow, trivial⟩, hB1⟩ trivial
 case body =>
   rintro l pre x a' W hl ⟨r, hr⟩ _ hf hlt
   exact absurd hlt (Nat.not_lt_zero _)
 case done =>
   rintro D ys W hD hS ⟨⟨v, hv, hrow, _⟩, hB⟩ hK
   have hc := hv.cell
   gi_wp2
   refine ⟨by simp, .inl ⟨_, _, rfl, run_takeDeferred hK, ?_⟩⟩
   subst hS
   exact ⟨_, results_tmp rfl _ _ _, v, rfl, ownsRow_putObj hrow _ hK rfl, hB.trans (belowK_b (w := w) (Nat.le_refl _) W D _ _ (by simp at hD; omega) hK rfl rfl)⟩
 case stop =>
   rintro D c pre W _ _ h _
   exact h.elim
theorem bitsLen0 (w : World) : Calls Tryz.prog 349 #[.int .u64 0] w fun e w' => e = .returned (.int .i64 0) ∧ w' = w := by
 go_enter Tryz.func349, Tryz.ntmps349
 go_wp2
 go_ret
 have h0 : (wrap64 (wrap64 (Lib.len8 0))) = 0 := by first | kernel_rfl | (simp [Lib.len8, wrap64]; done)
 exact ⟨by show Ending.returned (.int .i64 (wrap64 (wrap64 (Lib.len8 0)))) = _; rw [h0], rfl⟩
theorem ins0 (A : Option Addr) (c : Nat) (w : World) : Calls Tryz.prog 381 #[.slice A 0 c, .int .i64 0, .int .i64 0] w fun e w' => e = .returned (.tuple #[]) ∧ w' = w := by
 go_enter Tryz.func381, Tryz.ntmps381
 go_wp2_with (fail)
 refine wp_loop_rounds 1 ?_
 rw [rounds_succ]
 go_wp2
 go_returns
 exact ⟨rfl, rfl⟩
theorem pdq0 (A : Option Addr) (c : Nat) (w : World) : Calls Tryz.prog 351 #[.slice A 0 c, .int .i64 0, .int .i64 0, .int .i64 0] w fun e w' => e = .returned (.tuple #[]) ∧ w' = w := by
 go_enter Tryz.func351, Tryz.ntmps351
 go_wp2_with (fail)
 refine wp_loop_rounds 1 ?_
 rw [rounds_succ]
 go_wp2_with (fail)
 refine (ins0 A c w).mono ?_; rintro e w1 ⟨rfl, hw⟩; rw [hw]; clear hw
 go_wp2
 go_returns
 exact ⟨rfl, rfl⟩
theorem sort0 (A : Option Addr) (c : Nat) (w : World) : Calls Tryz.prog 316 #[.slice A 0 c] w fun e w' => e = .returned (.tuple #[]) ∧ w' = w := by
 go_enter Tryz.func316, Tryz.ntmps316
 go_wp2_with (fail)
 refine (bitsLen0 w).mono ?_; rintro e w1 ⟨rfl, hw⟩; rw [hw]; clear hw
 go_wp2_with (fail)
 refine (pdq0 A c w).mono ?_; rintro e w1 ⟨rfl, hw⟩; rw [hw]; clear hw
 go_wp2
 go_returns
 exact ⟨rfl, rfl⟩
theorem unlike0C (A : Option Addr) (c : Nat) (m : Int) (w : World) : Calls Tryz.prog 154 #[.slice A 0 c, .int .i64 m] w fun e w' => e = .returned (.bool true) ∧ Ext w w' := by
 obtain ⟨x, hx⟩ : ∃ x, w.heap.size = x := ⟨_, rfl⟩
 have B1 := bN w (.cells #[.slice A 0 c] 25)
 have hE1 := (Ext.refl w).alloc (.cells #[.slice A 0 c] 25)
 have hx1 : x < (w.alloc (.cells #[.slice A 0 c] 25)).heap.size := by simp [hx]
 have hv : Calls Tryz.prog 251 #[.slice A 0 c] w fun e w' => e = .returned (.func (.func 317) #[] #[PX x]) ∧ w' = w.alloc (.cells #[.slice A 0 c] 25) := by
   go_enter Tryz.func251, Tryz.ntmps251
   go_wp2
   go_ret
   exact ⟨rfl, rfl⟩
 rw [hx] at B1
 have ha := callsIn_wide.1 (appendSeq0 Fence.wide 9 trivial trivial rfl (by omega) x A c _ hx1 (bC B1 0))
 go_enter Tryz.func154, Tryz.ntmps154
 go_wp2_with (fail)
 refine hv.mono ?_; rintro e w1 ⟨rfl, hw⟩; rw [hw]; clear hw
 generalize (w.alloc (.cells #[.slice A 0 c] 25)) = w2 at *
 have hs : Calls Tryz.prog 250 #[.func (.func 317) #[] #[PX x]] w2 fun e w' => ∃ A' c', e = .returned (.slice A' 0 c') ∧ c' ≤ maxLen ∧ (A' = none → c' = 0) ∧ Ext w2 w' := by
   have hcl : Calls Tryz.prog 315 #[.func (.func 317) #[] #[PX x]] w2 fun e w' => ∃ A' c', e = .returned (.slice A' 0 c') ∧ c' ≤ maxLen ∧ (A' = none → c' = 0) ∧ Ext w2 w' := by
     go_enter Tryz.func315, Tryz.ntmps315
     go_wp2_with (first | (go_at_call 350; refine ha.mono ?_; rintro e w1 ⟨v, rfl, ho, hE⟩))
     go_ret
     rcases ho.2 with ⟨rfl, _⟩ | ⟨g, cap, cur, rfl, _, _, _, h2, _⟩
     · exact ⟨none, 0, rfl, Nat.zero_le _, fun _ => rfl, hE⟩
     · exact ⟨_, cap, rfl, h2, (fun h => by cases h), hE⟩
   go_enter Tryz.func250, Tryz.ntmps250
   go_wp2_with (fail)
   refine hcl.mono ?_; rintro e w3 ⟨A3, c3, rfl, hc3, hn3, hE3⟩
   go_wp2_with (fail)
   refine (sort0 A3 c3 w3).mono ?_; rintro e w4 ⟨rfl, hw⟩; rw [hw]; clear hw
   go_wp2
   go_ret
   exact ⟨A3, c3, rfl, hc3, hn3, hE3⟩
 go_wp2_with (fail)
 refine hs.mono ?_; rintro e w3 ⟨A3, c3, rfl, hc3, hn3, hE3⟩
 go_wp2_with (fail)
 refine (cloneI (fun _ => False) A3 c3 [] w3 (Rd.Sl.nil _ _ _ hc3 hn3) (by simp) (fun _ h => h.elim)).mono ?_; rintro e w4 ⟨A4, c4, rfl, _, hE4⟩
 go_wp2
 go_ret
 exact ⟨rfl, (hE1.trans hE3).trans hE4⟩
end K76
namespace K77
open Go Go.RowKit
open KB KB2 KB3 K1 K6 K7 K8 K9 K22 K24 K25 K31 K76
theorem applyHead0 (F : Nat → Prop) (A0 Ai0 : Option Addr) (c0 ci0 : Nat) (s0 : Sch) (ids0 : List Int) (next0 : Int) (A Ai : Option Addr) (c ci : Nat) (s : Sch) (hs : s.Ok) (id : Nat) (hid : id ≤ 999999) (w : World) (hA : SchAt F w A c s) (hi : (rdInt .i64).Sl F w Ai ci []) (hF : ∀ k, F k → k < w.heap.size) :
   Calls Tryz.prog 76 #[stV A0 c0 s0 Ai0 ci0 ids0 next0, recV 1 A c s Ai ci [] id] w fun e w' => ∃ Ai' ci', e = .returned (.tuple #[stV A c s Ai' ci' [] id, .bool true]) ∧ (rdInt .i64).Sl F w' Ai' ci' [] ∧ Ext w w' := by
 obtain ⟨x, hx⟩ : ∃ x, w.heap.size = x := ⟨_, rfl⟩
 have hE1 := (((Ext.refl w).alloc (.cells #[.slice A0 s0.types.length c0, .int .i64 s0.keys, .int .i64 s0.mode, .int .i64 s0.grain, .slice Ai0 ids0.length ci0, .int .i64 next0] 82)).alloc (.cells #[.int .i64 1, .slice A s.types.length c, .int .i64 s.keys, .int .i64 s.mode, .int .i64 s.grain, .slice Ai 0 ci, .int .i64 id] 92)).alloc (.cells #[.slice none 0 0, .int .i64 0, .int .i64 0, .int .i64 0, .slice none 0 0, .int .i64 0] 82)
 have B1 := bO2 (o' := .cells #[.slice none 0 0, .int .i64 0, .int .i64 0, .int .i64 0, .slice none 0 0, .int .i64 0] 82) (bO2 (o' := .cells #[.int .i64 1, .slice A s.types.length c, .int .i64 s.keys, .int .i64 s.mode, .int .i64 s.grain, .slice Ai 0 ci, .int .i64 id] 92) (bN w (.cells #[.slice A0 s0.types.length c0, .int .i64 s0.keys, .int .i64 s0.mode, .int .i64 s0.grain, .slice Ai0 ids0.length ci0, .int .i64 next0] 82)))
 have B2 := bO2 (o' := .cells #[.slice none 0 0, .int .i64 0, .int .i64 0, .int .i64 0, .slice none 0 0, .int .i64 0] 82) (bN (w.alloc (.cells #[.slice A0 s0.types.length c0, .int .i64 s0.keys, .int .i64 s0.mode, .int .i64 s0.grain, .slice Ai0 ids0.length ci0, .int .i64 next0] 82)) (.cells #[.int .i64 1, .slice A s.types.length c, .int .i64 s.keys, .int .i64 s.mode, .int .i64 s.grain, .slice Ai 0 ci, .int .i64 id] 92))
 have B3 := bN ((w.alloc (.cells #[.slice A0 s0.types.length c0, .int .i64 s0.keys, .int .i64 s0.mode, .int .i64 s0.grain, .slice Ai0 ids0.length ci0, .int .i64 next0] 82)).alloc (.cells #[.int .i64 1, .slice A s.types.length c, .int .i64 s.keys, .int .i64 s.mode, .int .i64 s.grain, .slice Ai 0 ci, .int .i64 id] 92)) (.cells #[.slice none 0 0, .int .i64 0, .int .i64 0, .int .i64 0, .slice none 0 0, .int .i64 0] 82)
 simp only [World.size_alloc, hx] at B1 B2 B3
 go_enter Tryz.func76, Tryz.ntmps76
 go_wp2_with (fail)
 generalize (((w.alloc (.cells #[.slice A0 s0.types.length c0, .int .i64 s0.keys, .int .i64 s0.mode, .int .i64 s0.grain, .slice Ai0 ids0.length ci0, .int .i64 next0] 82)).alloc (.cells #[.int .i64 1, .slice A s.types.length c, .int .i64 s.keys, .int .i64 s.mode, .int .i64 s.grain, .slice Ai 0 ci, .int .i64 id] 92)).alloc (.cells #[.slice none 0 0, .int .i64 0, .int .i64 0, .int .i64 0, .slice none 0 0, .int .i64 0] 82)) = w1 at *
 refine (putHeadC F A Ai c ci s [] id hid w1 (Rd.Sl.ext hA hE1) hs (hi.ext hE1) (by simp) (by simp) (FExt hF hE1)).mono ?_; rintro e w2 ⟨A2, c2, rfl, _, hE2⟩
 have hE12 := hE1.trans hE2
 replace B1 := hE2.blk B1
 replace B2 := hE2.blk B2
 replace B3 := hE2.blk B3
 have hxa := blk_lt B1
 have hxb := blk_lt B2
 have hxc := blk_lt B3
 have hw1 : IntKind.i64.wrap ((id : Int) + 1) = (id : Int) + 1 := by rw [IntKind.wrap_i64]; omega
 (have p0 := bC (B1) 0; have p1 := bC (B1) 1; have p2 := bC (B1) 2; have p3 := bC (B1) 3; have p4 := bC (B1) 4; have p5 := bC (B1) 5)
 (have q0 := bC (B2) 0; have q1 := bC (B2) 1; have q2 := bC (B2) 2; have q3 := bC (B2) 3; have q4 := bC (B2) 4; have q5 := bC (B2) 5; have q6 := bC (B2) 6)
 go_wp2_with (fail)
 refine (unlike0C Ai ci id _).mono ?_; rintro e w3 ⟨rfl, hE3⟩
 have hE23 : Ext w2 w3 := ((Ext.refl w2).alloc _).trans hE3
 clear p0 p1 p2 p3 p4 p5 q0 q1 q2 q3 q4 q5 q6
 replace B2 := hE23.blk B2
 replace B3 := hE23.blk B3
 have hE13 := hE12.trans hE23
 have hxb3 := blk_lt B2
 (have q0 := bC (B2) 0; have q1 := bC (B2) 1; have q2 := bC (B2) 2; have q3 := bC (B2) 3; have q4 := bC (B2) 4; have q5 := bC (B2) 5; have q6 := bC (B2) 6)
 go_wp2_with (fail)
 have hi3 := hi.ext hE13
 have hF3 := FExt hF hE13
 have hclo := fun W (hW : Ext w3 W) => cloneI F Ai ci [] W (hi3.ext hW) (by simp) (FExt hF3 hW)
 have nx : ¬ x + 1 = x + 1 + 1 := by omega
 have keep : ∀ w', Keep (fun k => k = x + 1 + 1) w3 w' → Keep (fun k => k = x + 1 + 1) w3 w' ∧ w'.cell? ⟨x + 1, 1, none⟩ = some (.slice A s.types.length c) ∧ w'.cell? ⟨x + 1, 2, none⟩ = some (.int .i64 s.keys) ∧ w'.cell? ⟨x + 1, 3, none⟩ = some (.int .i64 s.mode) ∧ w'.cell? ⟨x + 1, 4, none⟩ = some (.int .i64 s.grain) ∧ w'.cell? ⟨x + 1, 5, none⟩ = some (.slice Ai 0 ci) ∧ w'.cell? ⟨x + 1, 6, none⟩ = some (.int .i64 id) := fun w' h => ⟨h, h.cell nx q1, h.cell nx q2, h.cell nx q3, h.cell nx q4, h.cell nx q5, h.cell nx q6⟩
 clear q0 q1 q2 q3 q4 q5 q6
 go_region_held3 (fun w' => Keep (fun k => k = x + 1 + 1) w3 w' ∧ w'.cell? ⟨x + 1, 1, none⟩ = some (.slice A s.types.length c) ∧ w'.cell? ⟨x + 1, 2, none⟩ = some (.int .i64 s.keys) ∧ w'.cell? ⟨x + 1, 3, none⟩ = some (.int .i64 s.mode) ∧ w'.cell? ⟨x + 1, 4, none⟩ = some (.int .i64 s.grain) ∧ w'.cell? ⟨x + 1, 5, none⟩ = some (.slice Ai 0 ci) ∧ w'.cell? ⟨x + 1, 6, none⟩ = some (.int .i64 id)) (((try dsimp only); refine keep _ ?_; first | with_reducible assumption | exact (Ext.keep (w := w3) XE _) | exact (hx4.keep _).trans (((((kS1 _ _ _ _).trans (kS1 _ _ _ _)).trans (kS1 _ _ _ _)).trans (kS1 _ _ _ _)).trans ((kS1 _ _ _ _).trans (kS1 _ _ _ _))))) (first | (go_at_call 37; with_reducible refine Calls.mono (hclo _ ?_) ?_; exact XE; rintro e w4 ⟨A4, c4, rfl, hs4, hE4⟩; have hx4 := Ext.trans (a := w3) XE hE4; (have z0 := bC (hx4.blk B3) 0; have zf0 := bF (hx4.blk B3) 0; have z1 := bC (hx4.blk B3) 1; have zf1 := bF (hx4.blk B3) 1; have z2 := bC (hx4.blk B3) 2; have zf2 := bF (hx4.blk B3) 2; have z3 := bC (hx4.blk B3) 3; have zf3 := bF (hx4.blk B3) 3; have z4 := bC (hx4.blk B3) 4; have zf4 := bF (hx4.blk B3) 4; have z5 := bC (hx4.blk B3) 5; have zf5 := bF (hx4.blk B3) 5)))
 all_goals
   (try simp only [Exit.inBlock, Exit.then])
   go_wp2_with (fail)
   have P := put6 (hx4.blk B3) (.slice A s.types.length c) (.int .i64 s.keys) (.int .i64 s.mode) (.int .i64 s.grain) (.slice A4 0 c4) (.int .i64 id)
   (have e0 := bC (P.1) 0; have e1 := bC (P.1) 1; have e2 := bC (P.1) 2; have e3 := bC (P.1) 3; have e4 := bC (P.1) 4; have e5 := bC (P.1) 5)
   (try simp only [Exit.inBlock, Exit.then])
   refine bodyPost_ret (v := .tuple #[stV A c s A4 c4 [] id, .bool true]) (by simp [results, Tryz.results76, go_sem, e0, e1, e2, e3, e4, e5]) rfl ?_
   refine ⟨A4, c4, rfl, Rd.Sl.nil _ _ _ hs4.max hs4.nil_, ?_⟩
   first | exact (hE13.trans hx4).keepNew P.2 (fun i q => by omega) | exact ((hE13.trans hx4).keepNew P.2 (fun i q => by omega)).drew
def adds (n : Nat) : List Int := ((List.range n).map recAdd).flatten
theorem adds_succ (n : Nat) : adds (n + 1) = adds n ++ recAdd n := by simp [adds, List.range_succ]
def idsTo (n : Nat) : List Int := (List.range n).map (fun (k : Nat) => (k : Int))
theorem idsTo_succ (n : Nat) : idsTo (n + 1) = idsTo n ++ [(n : Int)] := by simp [idsTo, List.range_succ]
theorem idsTo_len (n : Nat) : (idsTo n).length = n := by simp [idsTo]
end K77
end Go.Proofs.YtbjeejimedhniaaGreatDoor
