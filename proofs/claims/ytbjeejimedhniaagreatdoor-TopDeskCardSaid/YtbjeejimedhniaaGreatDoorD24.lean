/- Contracts of the program's functions, as the walks of the law use them. -/
import Derived.Test.YtbjeejimedhniaaGreatDoorD1
import Derived.Test.YtbjeejimedhniaaGreatDoorD2
import Derived.RangeFuncStops
import Derived.RangeFuncNested
import Derived.RangeFuncBound
import Derived.RangeFuncCalls
import Derived.RangeFuncLeaves
import Derived.Shelf.Abstract
import Derived.Shelf.RegionOpen
import Derived.WalkKit
import Derived.OwnWalkIn
import Derived.TacticsInMore
import Derived.LoopNIn
import Derived.LoopIn
import Derived.Shelf.Strings.BuilderK
import Derived.Test.YtbjeejimedhniaaGreatDoorProg
import Derived.Test.YtbjeejimedhniaaGreatDoorD17
import Derived.Test.YtbjeejimedhniaaGreatDoorD7
import Derived.Test.YtbjeejimedhniaaGreatDoorD12
import Derived.WalkMore
import Derived.Deep.DeepCutAuto
import Derived.Deep.CutRange
import Derived.StillTailTactics
set_option linter.unusedVariables false
set_option linter.unusedSimpArgs false
set_option maxRecDepth 100000
set_option maxHeartbeats 2000000
namespace Go.Proofs.YtbjeejimedhniaaGreatDoor
namespace K99
open Go Go.RowKit Go.Shelf Go.Proofs
open KB K89
def splitF : Nat → List UInt8 → List (List UInt8)
 | 0, l => [l]
 | f + 1, l => if l.dropWhile (fun b => !(b == 10)) = [] then [l] else l.takeWhile (fun b => !(b == 10)) :: splitF f ((l.dropWhile (fun b => !(b == 10))).drop 1)
def linesL (l : List UInt8) : List (List UInt8) := splitF l.length l
theorem split_none (f : Nat) (t : List UInt8) (h : t.dropWhile (fun b => !(b == 10)) = []) : splitF f t = [t] := by
 cases f with
 | zero => rfl
 | succ f => rw [splitF, if_pos h]
theorem split_some (f i : Nat) (t : List UInt8) (hf : t.length ≤ f) (hi : i < t.length) (h1 : t.takeWhile (fun b => !(b == 10)) = t.take i) (h2 : (t.dropWhile (fun b => !(b == 10))).drop 1 = t.drop (i + 1)) : ∃ g, f = g + 1 ∧ splitF f t = t.take i :: splitF g (t.drop (i + 1)) := by
 obtain ⟨g, rfl⟩ : ∃ g, f = g + 1 := ⟨f - 1, by omega⟩
 refine ⟨g, rfl, ?_⟩
 have hne : ¬ t.dropWhile (fun b => !(b == 10)) = [] := fun q => by
   have := congrArg List.length (List.takeWhile_append_dropWhile (p := fun b : UInt8 => !(b == 10)) (l := t))
   rw [q, h1, List.append_nil, List.length_take] at this
   omega
 rw [splitF, if_neg hne, h1, h2]
theorem drop_out {α : Type} {l : List α} {i : Nat} {x : α} {r : List α} (h : l.drop i = x :: r) : ∃ hi : i < l.length, l[i] = x ∧ l.drop (i + 1) = r := by
 have hi : i < l.length := by
   rcases Nat.lt_or_ge i l.length with q | q
   · exact q
   · rw [List.drop_of_length_le q] at h; cases h
 refine ⟨hi, ?_⟩
 rw [List.drop_eq_getElem_cons hi] at h
 exact ⟨(List.cons.inj h).1, (List.cons.inj h).2⟩
theorem indexC (s : ByteArray) (w : World) : Calls Tryz.prog 180 #[.string s, .string ⟨#[10]⟩] w fun e w' => e = .returned (.int .i64 (Lib.indexByte s.data.toList 10)) ∧ w' = w := by
 have HI := As.mk (Tryz.stringslite_Index_one s 10)
 go_enter Tryz.func180, Tryz.ntmps180
 go_wp2_with (fail)
 refine (HI.out _).mono ?_; rintro e w1 ⟨rfl, rfl⟩
 go_wp2_with (fail)
 go_ret
 exact ⟨rfl, rfl⟩
theorem splitC (F : Fence) (n : Nat) (h10 : F.fn 178) (hFi : F.fn 180) (hro : F.round = none) (hn : 1 ≤ n) (hix : ∀ (s : ByteArray) (w : World), CallsIn F (n - 1) Tryz.prog 180 #[.string s, .string ⟨#[10]⟩] w fun e w' => e = .returned (.int .i64 (Lib.indexByte s.data.toList 10)) ∧ w' = w)
   (l b1 b2 b3 : Nat) (hb12 : ¬ b1 = b2) (hb32 : ¬ b3 = b2) (src : List UInt8) (hsz : src.length ≤ 1000000000) (J : Nat → World → Prop)
   (hJ2 : ∀ k W v, J k W → J k (W.setCell ⟨b2, 0, none⟩ v))
   (hY : ∀ k (hk : k < (linesL src).length) W, J k W → YieldAt F (n - 1) Tryz.prog l #[.string (BA (linesL src)[k])] W fun e W' => e = .returned (.bool true) ∧ J (k + 1) W' ∧ W'.heap[b1]? = W.heap[b1]? ∧ W'.heap[b2]? = W.heap[b2]? ∧ W'.heap[b3]? = W.heap[b3]?)
   (W : World) (h1 : W.heap[b1]? = some (.cells #[.string ⟨#[10]⟩] 9 (0, 0))) (h2 : W.heap[b2]? = some (.cells #[.string (BA src)] 9 (0, 0))) (h3 : W.heap[b3]? = some (.cells #[.int .i64 0] 3 (0, 0))) (h0 : J 0 W) :
   CallsIn F n Tryz.prog 178 #[.func (.yield l) #[] #[], .pointer (some ⟨b1, 0, none⟩), .pointer (some ⟨b2, 0, none⟩), .pointer (some ⟨b3, 0, none⟩)] W fun e W' => (∃ v, e = .returned v) ∧ J (linesL src).length W' := by
 obtain ⟨L, hL⟩ : ∃ L, linesL src = L := ⟨_, rfl⟩
 rw [hL] at hY ⊢
 have hstart : L.drop 0 = splitF src.length src := by rw [← hL]; rfl
 clear hL
 (have p0 := bC (h1) 0)
 refine callsIn_of_wp Tryz.func178 rfl h10 ?_ hro
 simp only [Tryz.ntmps178, List.size_toArray, List.length_cons, List.length_nil, Nat.reduceAdd, Nat.reduceSub, Array.replicate_succ, Array.replicate_zero, List.push_toArray, List.append_toArray, List.nil_append, List.cons_append]
 gi_wp2
 clear p0
 gi_loopw [] (fun wr => ∃ (k f : Nat) (t : List UInt8), L.drop k = splitF f t ∧ t.length ≤ f ∧ t.length ≤ 1000000000 ∧ wr.heap[b1]? = some (.cells #[.string ⟨#[10]⟩] 9 (0, 0)) ∧ wr.heap[b2]? = some (.cells #[.string (BA t)] 9 (0, 0)) ∧ wr.heap[b3]? = some (.cells #[.int .i64 0] 3 (0, 0)) ∧ J k wr) (fun wr => match wr.cell? ⟨b2, 0, none⟩ with | some (.string s) => s.size | _ => 0)
 case atStart => exact ⟨0, src.length, src, hstart, Nat.le_refl _, hsz, h1, h2, h3, h0⟩
 case round =>
   obtain ⟨k, f, t, hd, hf, ht, g1, g2, g3, hJ⟩ := hrel
   obtain ⟨s, hs0⟩ : ∃ s, BA t = s := ⟨_, rfl⟩
   have hsd : As (s.data.toList = t) := ⟨by rw [← hs0]⟩
   have hss : As (s.size = t.length) := ⟨by rw [← hs0]; rfl⟩
   rw [hs0] at g2
   have hc := bC g2 0
   (have p0 := bC (g1) 0; have pf0 := bF (g1) 0)
   (have q0 := bC (g2) 0; have qf0 := bF (g2) 0)
   (have r0 := bC (g3) 0; have rf0 := bF (g3) 0)
   rcases indexByte_split 10 t with ⟨e1, e2, e3⟩ | ⟨i, e1, e2, e3, e4⟩
   · have hd2 := hd
     rw [split_none f t e3] at hd2
     obtain ⟨hk, hx, hrest⟩ := drop_out hd2
     have hkl : k + 1 = L.length := by
       have := congrArg List.length hrest
       rw [List.length_drop] at this; simp at this; omega
     obtain ⟨fn, tmps, assign, body, hy, hR⟩ := hY k hk wr hJ
     rw [hx, hs0] at hy
     have HIX := As.mk (hix s)
     rw [hsd.out, e1] at HIX
     gi_wp2_with (gi_at_call 180; refine (HIX.out _).mono ?_; rintro e w2 ⟨rfl, rfl⟩)
     refine hR.mono ?_
     rintro e W3 ⟨rfl, hJ3, -, -, -⟩
     gi_wp2
     go_end0
     exact ⟨⟨_, rfl⟩, by rw [← hkl]; exact hJ3⟩
   · obtain ⟨g, rfl, hsp⟩ := split_some f i t hf e2 e3 e4
     have hd2 := hd
     rw [hsp] at hd2
     obtain ⟨hk, hx, hrest⟩ := drop_out hd2
     obtain ⟨fn, tmps, assign, body, hy, hR⟩ := hY k hk wr hJ
     have epre : s.extract 0 i = BA (t.take i) := by rw [ext_pre, hsd.out]
     have esuf : s.extract (i + 1) s.size = BA (t.drop (i + 1)) := by rw [ext_suf, hsd.out]
     rw [hx] at hy
     have HIX := As.mk (hix s)
     rw [hsd.out, e1] at HIX
     have hi : i < s.size := by rw [hss.out]; exact e2
     gi_wp2_with (gi_at_call 180; refine (HIX.out _).mono ?_; rintro e w2 ⟨rfl, rfl⟩)
     refine hR.mono ?_
     rintro e W3 ⟨rfl, hJ3, k1, k2, k3⟩
     have G1 := k1.trans g1
     have G2 := k2.trans g2
     have G3 := k3.trans g3
     clear p0 pf0
     clear q0 qf0
     clear r0 rf0
     (have p0 := bC (G1) 0; have pf0 := bF (G1) 0)
     (have q0 := bC (G2) 0; have qf0 := bF (G2) 0)
     (have r0 := bC (G3) 0; have rf0 := bF (G3) 0)
     gi_wp2
     have KS := kS1 W3 b2 0 (.string (BA (t.drop (i + 1))))
     have N2 := bS G2 0 (.string (BA (t.drop (i + 1))))
     have hdl : (t.drop (i + 1)).length = t.length - (i + 1) := List.length_drop
     go_roundw
     case rel => exact ⟨k + 1, g, t.drop (i + 1), hrest, by rw [hdl]; omega, by rw [hdl]; omega, KS.blk hb12 G1, N2, KS.blk hb32 G3, hJ2 _ _ _ hJ3⟩
     case measure =>
       have m1 := bC N2 0
       have m2 : (BA (t.drop (i + 1))).size = t.length - (i + 1) := hdl
       rw [hc]
       first
         | (rw [m1]; show (BA (t.drop (i + 1))).size < s.size; rw [m2, hss.out]; omega)
         | (first | rfl | skip)
end K99
namespace K100
open Go Go.RowKit Go.Shelf Go.Proofs
open KB K89 K99
def linePost (B b1 b2 b3 : Nat) (I : World → Prop) (W : World) : Exit → Act → World → Prop
 | .normal, _, W' => I W' ∧ W'.heap[B]? = W.heap[B]? ∧ W'.heap[B + 1]? = W.heap[B + 1]? ∧ W'.heap[b1]? = W.heap[b1]? ∧ W'.heap[b2]? = W.heap[b2]? ∧ W'.heap[b3]? = W.heap[b3]?
 | _, _, _ => False
theorem rangeLines {g : Operand} {p : Tmp} {assign body : Code} {Q : Exit → Act → World → Prop} {a : Act} {w : World} (b1 b2 b3 : Nat) (hb1 : b1 < w.heap.size) (hb2 : b2 < w.heap.size) (hb3 : b3 < w.heap.size) (hb12 : ¬ b1 = b2) (hb32 : ¬ b3 = b2)
   (hg : a.eval g = .func (.func 178) #[] #[.pointer (some ⟨b1, 0, none⟩), .pointer (some ⟨b2, 0, none⟩), .pointer (some ⟨b3, 0, none⟩)]) (src : List UInt8) (hsz : src.length ≤ 1000000000)
   (h1 : w.heap[b1]? = some (.cells #[.string ⟨#[10]⟩] 9 (0, 0))) (h2 : w.heap[b2]? = some (.cells #[.string (BA src)] 9 (0, 0))) (h3 : w.heap[b3]? = some (.cells #[.int .i64 0] 3 (0, 0)))
   (I : Nat → World → Prop) (hIa : ∀ r, I 0 ((w.alloc (.deferred (some []))).alloc (.loop r))) (hIp : ∀ k W l o, w.heap.size ≤ l → l ≤ w.heap.size + 1 → I k W → I k (W.putObj l o)) (hI2 : ∀ k W v, I k W → I k (W.setCell ⟨b2, 0, none⟩ v))
   (Ax : Nat → Act → Prop)
   (hassign : ∀ (l k : Nat) (hk : k < (linesL src).length) (W : World) (K : Act → World → Prop), (∀ a', Ax k a' → K a' W) → assign.wpIn (Fence.wide.inRound l) 1 Tryz.prog (Exit.then K (fun _ _ _ => False)) { tmps := a.tmps.setIfInBounds p (.string (BA (linesL src)[k])), defers := [] } W)
   (hbody : ∀ (k : Nat) (hk : k < (linesL src).length) (a' : Act) (W : World), I k W → Ax k a' → w.heap.size + 1 < W.heap.size → body.wpIn (Fence.wide.inRound (w.heap.size + 1)) 1 Tryz.prog (linePost w.heap.size b1 b2 b3 (I (k + 1)) W) a' W)
   (hdone : ∀ (W : World), I (linesL src).length W → W.heap[w.heap.size]? = some (.deferred (some [])) → Q .normal { a with defers := { target := .collected w.heap.size, args := #[] } :: a.defers } W) :
   (Code.rangeFunc g #[p] assign body).wpIn Fence.wide 3 Tryz.prog Q a w := by
 refine wpIn_rangeFunc ?_
 intro fn hfn
 obtain ⟨rec, hrec⟩ : ∃ rec : LoopState → Option Code → Loop, rec = fun st pe => { state := st, pending := pe, fn, tmps := a.tmps, params := #[p], assign, body, defers := w.heap.size } := ⟨_, rfl⟩
 obtain ⟨W1, hW1⟩ : ∃ W1, (w.alloc (.deferred (some []))).alloc (.loop (rec .ready none)) = W1 := ⟨_, rfl⟩
 have hL1 : W1.heap[w.heap.size + 1]? = some (.loop (rec .ready none)) := by
   rw [← hW1]; have := World.alloc_heap_new (w.alloc (.deferred (some []))) (.loop (rec .ready none)); rwa [World.size_alloc] at this
 have hK1 : W1.heap[w.heap.size]? = some (.deferred (some [])) := by
   rw [← hW1]; exact (Below.heap_alloc _ _ _ (by simp)).trans (World.alloc_heap_new w _)
 have hI1 : I 0 W1 := by rw [← hW1]; exact hIa _
 have hE1 : Ext w W1 := by rw [← hW1]; exact ((Ext.refl w).alloc _).alloc _
 refine ⟨w.heap.size + 1, [{ target := .collected w.heap.size, args := #[] }], W1, { target := .fn (.func 178) #[.pointer (some ⟨b1, 0, none⟩), .pointer (some ⟨b2, 0, none⟩), .pointer (some ⟨b3, 0, none⟩)], args := #[.func (.yield (w.heap.size + 1)) #[] #[]] }, W1, 178,
   #[.func (.yield (w.heap.size + 1)) #[] #[], .pointer (some ⟨b1, 0, none⟩), .pointer (some ⟨b2, 0, none⟩), .pointer (some ⟨b3, 0, none⟩)], W1, ?_, ?_, ?_, ?_, ?_, ?_⟩
 · rw [← hW1, hrec]; exact run_enterLoop_outer _ _ _ _ _
 · simp only [resolve, hg]
   simp [go_sem]
 · intro f' hf'; trivial
 · have eg : ∀ args w, (callFunc 178 args).run Tryz.prog w = .ok (.enter 178 args) w := enters_of Tryz.func178 (by kernel_rfl) rfl
   simp [invoke, go_sem, eg]
 · intro h; cases h
 · refine CallsIn.mono (splitC Fence.wide (3 - 1) trivial trivial rfl ?_ (fun s W => callsIn_wide.2 (indexC s W)) (w.heap.size + 1) b1 b2 b3 hb12 hb32 src hsz
     (fun k W => I k W ∧ W.heap[w.heap.size + 1]? = some (.loop (rec .ready none)) ∧ W.heap[w.heap.size]? = some (.deferred (some [])))
     ?_ ?_ W1 (hE1.blk h1) (hE1.blk h2) (hE1.blk h3) ⟨hI1, hL1, hK1⟩) ?_
   · decide
   · rintro k W v ⟨q1, q2, q3⟩
     have K := kS1 W b2 0 v
     exact ⟨hI2 k W v q1, K.blk (by omega) q2, K.blk (by omega) q3⟩
   · rintro k hk W ⟨hi, hl, hk1⟩
     have hlt : w.heap.size + 1 < W.heap.size := (Array.getElem?_eq_some_iff.1 hl).1
     have hy := run_yield (P := Tryz.prog) (args := #[.string (BA (linesL src)[k])]) hl (by rw [hrec]; rfl)
     rw [hrec] at hy
     have hy2 : (Instr.yield (w.heap.size + 1) #[.string (BA (linesL src)[k])]).run Tryz.prog W = .ok (.round (w.heap.size + 1) fn (a.tmps.setIfInBounds p (.string (BA (linesL src)[k]))) assign body) W := by
       rw [hy]; simp
     refine ⟨fn, _, assign, body, hy2, roundIn_of_wpIn hfn (hassign _ k hk W _ fun a' hax => ?_)⟩
     clear hy hy2
     refine ⟨_, run_beginRound hl (by rw [hrec]), ?_⟩
     have hl2 : (W.putObj (w.heap.size + 1) (.loop { rec .ready none with state := .busy })).heap[w.heap.size + 1]? = some (.loop { rec .ready none with state := .busy }) := World.putObj_heap_same hlt
     have hk2 : (W.putObj (w.heap.size + 1) (.loop { rec .ready none with state := .busy })).heap[w.heap.size]? = some (.deferred (some [])) := (World.putObj_heap_other (by omega)).trans hk1
     have q1 : (W.putObj (w.heap.size + 1) (.loop { rec .ready none with state := .busy })).heap[b1]? = W.heap[b1]? := World.putObj_heap_other (by omega)
     have q2 : (W.putObj (w.heap.size + 1) (.loop { rec .ready none with state := .busy })).heap[b2]? = W.heap[b2]? := World.putObj_heap_other (by omega)
     have q3 : (W.putObj (w.heap.size + 1) (.loop { rec .ready none with state := .busy })).heap[b3]? = W.heap[b3]? := World.putObj_heap_other (by omega)
     refine wpIn_mono (hbody k hk a' _ (hIp _ _ _ _ (by omega) (by omega) hi) hax (by first | exact (Array.getElem?_eq_some_iff.1 hl2).1)) ?_
     rintro e a3 W3 hp
     cases e with
     | normal =>
       obtain ⟨hi3, r1, r2, r3, r4, r5⟩ := hp
       have hl3 := r2.trans hl2
       have hlt3 : w.heap.size + 1 < W3.heap.size := (Array.getElem?_eq_some_iff.1 hl3).1
       have hr := run_endRound (P := Tryz.prog) none hl3
       rw [hrec] at hr
       refine ⟨_, _, hr, rfl, ⟨hIp _ _ _ _ (by omega) (by omega) hi3, ?_, ?_⟩, ?_, ?_, ?_⟩
       · rw [hrec]; exact World.putObj_heap_same hlt3
       · exact (World.putObj_heap_other (by omega)).trans (r1.trans hk2)
       · exact (World.putObj_heap_other (by omega)).trans (r3.trans q1)
       · exact (World.putObj_heap_other (by omega)).trans (r4.trans q2)
       · exact (World.putObj_heap_other (by omega)).trans (r5.trans q3)
     | ret => exact hp.elim
     | exit id => exact hp.elim
     | goto t => exact hp.elim
     | panic ch => exact hp.elim
     | outgrown => exact hp.elim
   · rintro e W2 ⟨⟨v, rfl⟩, hi, hl, hk⟩
     have hend := run_endLoop (P := Tryz.prog) hl (by rw [hrec]; simp)
     rw [hrec] at hend
     exact ⟨none, _, hend, hdone _ (hIp _ _ _ _ (by omega) (by omega) hi) ((World.putObj_heap_other (by omega)).trans hk)⟩
end K100
end Go.Proofs.YtbjeejimedhniaaGreatDoor
namespace Go.Proofs
open Go.Shelf
def Tryz.lays169_ren : Go.Shelf.Ren := ⟨fun | 169 => 48 | n => n, fun | 70 => 119 | 9 => 9 | 0 => 0 | 72 => 122 | 37 => 120 | 127 => 191 | 3 => 3 | 5 => 5 | n => n, fun | n => n⟩
theorem Tryz.lays169 : Go.Proofs.Lays.n169 Tryz.prog Tryz.lays169_ren := {
  mixed := by kernel_rfl
  f169 := Tryz.func48.trans (congrArg some (by kernel_rfl))
  t0 := Tryz.underlying0
  a0 := Tryz.isAgg0
  z0 := Tryz.sizeOf0
  v0 := Tryz.zeroValue0
  t3 := Tryz.underlying3
  a3 := Tryz.isAgg3
  z3 := Tryz.sizeOf3
  v3 := Tryz.zeroValue3
  t9 := Tryz.underlying9
  a9 := Tryz.isAgg9
  z9 := Tryz.sizeOf9
  v9 := Tryz.zeroValue9
  t37 := Tryz.underlying120
  a37 := Tryz.isAgg120
  z37 := Tryz.sizeOf120
  v37 := Tryz.zeroValue120
  t70 := Tryz.underlying119
  a70 := Tryz.isAgg119
  z70 := Tryz.sizeOf119
  v70 := Tryz.zeroValue119
  t72 := Tryz.underlying122
  a72 := Tryz.isAgg122
  z72 := Tryz.sizeOf122
  v72 := Tryz.zeroValue122
  t127 := Tryz.underlying191
  a127 := Tryz.isAgg191
  z127 := Tryz.sizeOf191
  v127 := Tryz.zeroValue191 }
theorem Tryz.Builder_Extra_169 : Builder.Extra Tryz.prog Tryz.lays169_ren := {
  sizeBuilder := by kernel_rfl
  liesBuilder := by kernel_rfl
  t5 := Tryz.underlying5
  a5 := Tryz.isAgg5
  z5 := Tryz.sizeOf5
  v5 := Tryz.zeroValue5
  infoByte := by kernel_rfl
  cellsByte := by kernel_rfl
  sizeByte := by kernel_rfl
  neB5 := by decide }
open Go.RowKit in
theorem Tryz.Builder_String_any_k (B b : Nat) (l : List UInt8) (w : World) (h : Lib.IsBuilderF 122 5 B b (Lib.byteCells l) w) (hBw : B ≤ w.heap.size) :
    Calls Tryz.prog 48 #[.pointer (some ⟨b, 0, none⟩)] w fun e w' => e = .returned (.string ⟨l.toArray⟩) ∧ (Lib.IsBuilderF 122 5 B b (Lib.byteCells l) w' ∧ Below B w w' ∧ Lib.OthersKept 5 (some b) w w') := Any.Builder_String_any_k Tryz.lays169 Tryz.Builder_Extra_169 B b l w h hBw
end Go.Proofs
namespace Go.Proofs.YtbjeejimedhniaaGreatDoor
namespace K98
open Go Go.RowKit
open KB KB2
theorem infoU8 : (Tryz.prog.info? 5).map (fun i => (i.zero, i.size, i.bytes)) = some (some (.int .u8 0), 1, 1) := by kernel_rfl
theorem str_at {w : World} {B : Nat} {ty : TypeId} {v : Value} {n : Nat} {xs : List Value} (hown : w.ownsRow B 5 1 v n xs) (s : ByteArray) (h63 : n + s.size ≤ maxLen) (hby : n + s.size ≤ 140737488355328) {v' : Value} {w' : World}
   (h : (Builtin.append_ #[120, 9] ty #[v, .string s]).run Tryz.prog w = .ok v' w') : At' w v v' := by
 obtain ⟨i, hi, hz, hsize, hb⟩ := info_parts infoU8
 have hsmall : n + s.size ≤ 9223372036854775807 := by simp only [maxLen] at h63; omega
 have hxl : xs.length = n := by simpa using hown.1
 rcases hown.2 with ⟨rfl, rfl⟩ | ⟨g, cap, cur, rfl, hbg, hg, hnc, hcm, hcs, htake⟩
 · by_cases hm : s.size = 0
   · have hf := Lib.run_firstCells_string (P := Tryz.prog) w 1 s
     rw [hm] at hf
     have hr : (Builtin.append_ #[120, 9] ty #[.slice none 0 0, .string s]).run Tryz.prog w = .ok (.slice none 0 0) w := by
       simp [Builtin.append_, run_underlying Tryz.underlying120, run_underlying Tryz.underlying9, sizeOf, typeInfo, hi, hsize, Builtin.lenOf, hm, hf]
     rw [hr] at h
     injection h with h1 _
     exact .inl (by rw [← h1])
   · have hr := run_append_nil_string (P := Tryz.prog) w 120 9 ty 5 i (.int .u8 0) Tryz.underlying120 Tryz.underlying9 hi hz s (by omega) (by omega) (by rw [hb]; omega)
     rw [hr] at h
     injection h with h1 _
     exact .inr (by rw [← h1]; rfl)
 · by_cases hroom : n + s.size ≤ cap
   · have hr := Lib.run_append_room_string (P := Tryz.prog) w 120 9 ty 5 i Tryz.underlying120 Tryz.underlying9 hi hsize g n cap cur hg s hroom (by omega)
     rw [hr] at h
     injection h with h1 _
     exact .inl (by rw [← h1]; rfl)
   · have holds : ∀ j u, xs[j]? = some u → w.cell? ((⟨g, 0, none⟩ : Addr).add j) = some u := hown.cells (g := g) rfl
     have hr := Lib.run_append_grow_string (P := Tryz.prog) w 120 9 ty 5 i (.int .u8 0) Tryz.underlying120 Tryz.underlying9 hi hz ⟨g, 0, none⟩ n cap xs (by rw [hsize]; simpa using hxl) holds s (by omega) (by omega) (by rw [hb]; exact growslice_fits (by omega) (by omega))
     rw [hr] at h
     injection h with h1 _
     exact .inr (by rw [← h1]; rfl)
section
variable {ops : Array Oper} {rest : List Oper} {o : Oper} {a : Act} {Q : Exit → Act → World → Prop} {w : World}
theorem wpList_strAt (hgd : o.guard = none) (sl x : Operand) (ho : o.op = .call { callee := .builtin .append, args := #[sl, x], argTypes := #[120, 9] }) (B : Nat) (v : Value) (n : Nat) (xs : List Value) (hs : a.eval sl = v) (hown : w.ownsRow B 5 1 v n xs) (s : ByteArray) (hx : a.eval x = .string s)
   (h63 : n + s.size ≤ maxLen) (hby : n + s.size ≤ 140737488355328) (hB : B ≤ w.heap.size)
   (h : ∀ v' w', w'.ownsRow B 5 1 v' (n + s.size) (xs ++ Lib.strCells s) → w.grownBy w' v.ownBlock → At' w v v' → wpList Tryz.prog ops Q rest (a.put o.dst v') w') : wpList Tryz.prog ops Q (o :: rest) a w := by
 obtain ⟨i, hi, hz, hsize, hb⟩ := info_parts infoU8
 refine wpList_plain hgd fun K hK => ?_
 obtain ⟨v', w', hr, h2, h3, h4⟩ := Lib.run_append_own_string (P := Tryz.prog) w B 120 9 o.type 5 i Tryz.underlying120 Tryz.underlying9 hi hz hsize hb v n xs hown s h63 hby hB
 have hat := str_at hown s h63 hby hr
 unfold Oper.wp execOp
 simp only [ho, resolve, invoke, builtin, Sem.run_bind, Sem.run_pure, Result.andThen_ok, List.map_toArray, List.map_cons, List.map_nil, hs, hx, hr]
 exact hK _ _ (h v' w' h2 h3 hat)
end
def BAt (B : Nat) (w : World) (b : Nat) (v : Value) (l : List UInt8) : Prop :=
 B ≤ b ∧ (∃ p, (p = .pointer none ∨ p = .pointer (some ⟨b, 0, none⟩)) ∧ w.heap[b]? = some (.cells #[p, v] 122 (0, 0))) ∧ w.ownsRow B 5 1 v l.length (Lib.byteCells l) ∧ v.ownBlock ≠ some b
theorem copyCheckC (b : Nat) (p v : Value) (hp : p = .pointer none ∨ p = .pointer (some ⟨b, 0, none⟩)) (w : World) (hb : w.heap[b]? = some (.cells #[p, v] 122 (0, 0))) :
   Calls Tryz.prog 106 #[.pointer (some ⟨b, 0, none⟩)] w fun e w' => e = .returned (.tuple #[]) ∧ (w' = w ∨ w' = w.setCell ⟨b, 0, none⟩ (.pointer (some ⟨b, 0, none⟩))) ∧ w'.heap[b]? = some (.cells #[.pointer (some ⟨b, 0, none⟩), v] 122 (0, 0)) := by
 have hj0 : (Tryz.prog.info? 122).map (·.size) = some 2 := by kernel_rfl
 obtain ⟨j, hj, hjs⟩ := Option.map_eq_some_iff.1 hj0
 have hsh : w.shape? b = some (122, 2) := by simp [World.shape?, hb]
 have hb2 := bS hb 0 (.pointer (some ⟨b, 0, none⟩))
 (have p0 := bC (hb) 0; have pf0 := bF (hb) 0; have p1 := bC (hb) 1; have pf1 := bF (hb) 1)
 rcases hp with rfl | rfl
 · go_enter Tryz.func106, Tryz.ntmps106
   go_wp2
   rw [Lib.run_to_unsafe w ⟨b, 0, none⟩ Tryz.underlying119 Tryz.underlying262 hj (by rw [hjs]; decide) hsh (Nat.zero_lt_succ 1)]
   simp only [Result.andThen]
   rw [Oper.upon_value]
   go_wp2
   rw [run_callFunc_extern Tryz.func187 (by kernel_rfl) (by kernel_rfl) (by kernel_rfl) (e := Extern.AbiNoEscape.same) (by kernel_rfl)]
   rw [Lib.run_noEscape]
   simp only [Result.andThen]
   rw [Oper.upon_value]
   go_wp2
   rw [Lib.run_from_unsafe w ⟨b, 0, none⟩ Tryz.underlying262 Tryz.underlying119 hj hsh (by kernel_rfl)]
   simp only [Result.andThen]
   rw [Oper.upon_value]
   go_wp2
   go_end0
   exact ⟨rfl, .inr rfl, hb2⟩
 · go_enter Tryz.func106, Tryz.ntmps106
   go_wp2
   rw [Lib.run_neq_ptr_same w _ Tryz.underlying119 hj]
   go_wp2
   go_end0
   exact ⟨rfl, .inl rfl, hb⟩
theorem cells_app (l : List UInt8) (s : ByteArray) : Lib.byteCells l ++ Lib.strCells s = Lib.byteCells (l ++ s.data.toList) := by simp [Lib.byteCells, Lib.strCells]
theorem raw_keep {w w' : World} {B n : Nat} {e : TypeId} {v : Value} {xs : List Value} (h : w.ownsRow B e 1 v n xs) (hk : ∀ g, v.ownBlock = some g → w'.heap[g]? = w.heap[g]?) : w'.ownsRow B e 1 v n xs := by
 obtain ⟨h1, h2⟩ := h
 refine ⟨h1, h2.imp id ?_⟩
 rintro ⟨g, cap, cur, rfl, a, hb, rest⟩
 exact ⟨g, cap, cur, rfl, a, (hk g rfl).trans hb, rest⟩
theorem writeC (B b : Nat) (v : Value) (l : List UInt8) (s : ByteArray) (w : World) (h : BAt B w b v l) (hlen : l.length + s.size ≤ 1000000000) (hB : B ≤ w.heap.size) :
   Calls Tryz.prog 46 #[.pointer (some ⟨b, 0, none⟩), .string s] w fun e w' => (∃ r, e = .returned r) ∧ ∃ v', BAt B w' b v' (l ++ s.data.toList) ∧ (∀ q, v'.ownBlock = some q → v.ownBlock = some q ∨ w.heap.size ≤ q) ∧ Keep (fun k => k = b ∨ v.ownBlock = some k) w w' := by
 obtain ⟨hBb, ⟨p, hp, hb⟩, hown, hne⟩ := h
 have hcc := copyCheckC b p v hp w hb
 go_enter Tryz.func46, Tryz.ntmps46
 go_wp2_with (fail)
 refine hcc.mono ?_; rintro e w1 ⟨rfl, hw1, hb1⟩
 have hbl := blk_lt hb
 have K1 : Keep (fun k => k = b) w w1 := by
   rcases hw1 with rfl | rfl
   · exact Keep.refl _ _
   · exact kS1 w b 0 _
 have hge := fun q hq => hown.lt q hq
 have hown1 : w1.ownsRow B 5 1 v l.length (Lib.byteCells l) := raw_keep hown (fun g hg => K1.block g (hge g hg).2 (fun e => hne (by rw [hg, e])))
 clear hw1 hb hcc
 (have p0 := bC (hb1) 0; have pf0 := bF (hb1) 0; have p1 := bC (hb1) 1; have pf1 := bF (hb1) 1)
 have hsz := K1.size
 go_wp2_with (at_builtin; refine wpList_strAt rfl _ _ rfl B v l.length _ rfl hown1 s rfl (by unfold maxLen; omega) (by omega) (by omega) ?_; intro v2 w2 hown2 hg2 hat2; have hb2 := (hg2.block b (by omega) (fun e => hne e.symm)).trans hb1; (have q0 := bC (hb2) 0; have qf0 := bF (hb2) 0; have q1 := bC (hb2) 1; have qf1 := bF (hb2) 1); obtain ⟨ao, n2, cap, rfl⟩ : ∃ ao n2 cap, v2 = .slice ao n2 cap := (by rcases hown2.2 with ⟨hv, _⟩ | ⟨g, cap, cur, hv, _⟩ <;> exact ⟨_, _, _, hv⟩))
 have K3 := kS1 w2 b 1 (.slice ao n2 cap)
 have hb3 := bS hb2 1 (.slice ao n2 cap)
 have hat3 : ∀ q, (Value.slice ao n2 cap).ownBlock = some q → v.ownBlock = some q ∨ w.heap.size ≤ q := fun q hq => by
   rcases hat2 with e | e
   · exact .inl (e ▸ hq)
   · rw [e] at hq; cases hq; exact .inr hsz
 have hne2 : (Value.slice ao n2 cap).ownBlock ≠ some b := fun e => (hat3 b e).elim (fun e => hne e) (fun e => by omega)
 have K2 : Keep (fun k => v.ownBlock = some k) w1 w2 := Keep.of_grown hg2 (fun j hj _ => hj)
 have hge2 := fun q hq => hown2.lt q hq
 have hlen2 : l.length + s.size = (l ++ s.data.toList).length := by rw [List.length_append]; rfl
 rw [cells_app, hlen2] at hown2
 have hown3 := raw_keep (w' := w2.setCell ⟨b, 1, none⟩ (.slice ao n2 cap)) hown2 (fun g hg => K3.block g (hge2 g hg).2 (fun e => hne2 (by rw [hg, e])))
 go_wp2_with (fail)
 refine bodyPost_ret (v := .tuple #[.int .i64 s.size, .nilIface]) (by simp [results, Tryz.results46, go_sem]) rfl ?_
 exact ⟨⟨_, rfl⟩, _, ⟨hBb, ⟨_, .inr rfl, hb3⟩, hown3, hne2⟩, hat3, ((K1.mono (fun _ _ q => .inl q)).trans (K2.mono (fun _ _ q => .inr q))).trans (K3.mono (fun _ _ q => .inl q))⟩
theorem stringC (B b : Nat) (v : Value) (l : List UInt8) (w : World) (h : BAt B w b v l) (hB : B ≤ w.heap.size) :
   Calls Tryz.prog 48 #[.pointer (some ⟨b, 0, none⟩)] w fun e w' => e = .returned (.string ⟨l.toArray⟩) ∧ Below B w w' ∧ ∀ (k : Nat) (ds : Option (List Deferred)), w.heap[k]? = some (Obj.deferred ds) → w'.heap[k]? = some (Obj.deferred ds) := by
 obtain ⟨hBb, ⟨p, hp, hb⟩, hown, hne⟩ := h
 have hown' : w.ownsRow B 5 1 v (Lib.byteCells l).length (Lib.byteCells l) := by rw [Lib.byteCells_length]; exact hown
 refine (Tryz.Builder_String_any_k B b l w (Lib.IsBuilderF.of ?_) hB).mono ?_
 · rcases hp with rfl | rfl
   · exact .inl ⟨hBb, v, hb, hown', hne⟩
   · exact .inr ⟨hBb, v, hb, hown', hne⟩
 · rintro e w' ⟨rfl, -, h2, h3⟩
   refine ⟨rfl, h2, fun k ds hk => h3 k (Obj.deferred ds) hk (fun e => ?_) (fun c fz e => by cases e)⟩
   cases e
   rw [hb] at hk; cases hk
end K98
namespace K87
open Go Go.RowKit Go.Maps
open KB KB2 KB3 K8 K9 K65 P5 K33 K34 K35 K37 K38 K42 K44 K46 K50 K51
theorem putA_last (n : ByteArray) (x : Nat) : ∀ l : List (ByteArray × Nat), (∀ p ∈ l, ltN p.1 n) → putA n x l = l ++ [(n, x)]
 | [], _ => rfl
 | (m, y) :: l, h => by
   have h0 := h (m, y) (List.mem_cons_self ..)
   have ih := putA_last n x l (fun p hp => h p (List.mem_cons_of_mem _ hp))
   have e1 : n ≠ m := fun e => by subst e; exact ltN_irrefl _ h0
   have e2 : ¬ ltN n m := fun e => ltN_irrefl _ (ltN_trans h0 e)
   rw [putA, if_neg e1, if_neg e2, ih]; rfl
def crM (l : List ByteArray) : List (ByteArray × Nat) := l.zipIdx
theorem crM_snoc (l : List ByteArray) (n : ByteArray) : crM (l ++ [n]) = crM l ++ [(n, l.length)] := by simp [crM, List.zipIdx_append]
theorem crM_map (l : List ByteArray) : (crM l).map (·.1) = l := by simp [crM]
theorem crM_len (l : List ByteArray) : (crM l).length = l.length := by simp [crM]
theorem crM_put (l : List ByteArray) (n : ByteArray) (h : (l ++ [n]).Pairwise ltN) : putA n l.length (crM l) = crM (l ++ [n]) := by
 rw [crM_snoc]
 refine putA_last _ _ _ fun p hp => ?_
 have : p.1 ∈ l := by rw [← crM_map l]; exact List.mem_map.2 ⟨p, hp, rfl⟩
 exact (List.pairwise_append.1 h).2.2 p.1 this n (by simp)
def crD (D : Dsk) : Dsk := ⟨D.quota, 0, D.M.length, D.M.map (fun p => D.files.getD p.2 ([], 0)), crM (D.M.map (·.1)), true⟩
theorem minQ (W : World) (a : Int) (h : 0 ≤ a) : (Builtin.min_ #[3, 3] 3 #[.int .i64 a, .int .i64 0]).run Tryz.prog W = .ok (.int .i64 0) W := by
 rcases Int.lt_or_eq_of_le h with h1 | h1
 · have e1 : ¬ a < 0 := by omega
   simp [Builtin.min_, Builtin.min2, e1, h1]
 · subst h1; simp [Builtin.min_, Builtin.min2]
theorem NamesAt.lookRun1 {w : World} {b : Nat} {M : List (ByteArray × Nat)} (h : NamesAt w b M) (s : ByteArray) (hs : s.size ≤ maxLen) (i : Nat) (hi : getA s M = some i) :
   (Instr.lookup 101 (.map (some b)) (.agg #[.string s]) false).run Tryz.prog w = .ok (.int .i64 i) w := by
 obtain ⟨D, h1, h2⟩ := h.at_
 obtain ⟨es, clock, hb, F, _, rfl⟩ := h2
 rcases Maps.fit_look false law Tryz.underlying101 (zeroInt w) hb F (keyW s hs) with ⟨hrun, _, hat⟩ | ⟨e0, y, _, _, hrun, hRv, hat, _⟩
 · have hh := (h1.look s hs).1
   rw [hi, Maps.has_false_of_atKey hat] at hh
   cases hh
 · have hh := (h1.look s hs).2 i hi
   rw [hat] at hh
   obtain ⟨c, hc0, hc, _⟩ := plainElem_int_inv Tryz.underlying3 (show plainElem Tryz.prog 3 e0.val = some (y.1, y.2) from hRv)
   rw [hh] at hc
   injection hc with h3
   injection h3 with h3
   injection h3 with _ h4
   rw [hrun, hc0, h4]; rfl
theorem new0C (q : Nat) (hq : q ≤ 1048576) (w : World) : Calls Tryz.prog 26 #[.int .i64 q] w fun e w' => ∃ dg mg kg, e = .returned (BX dg) ∧ w.heap.size ≤ mg ∧ mg < kg ∧ kg < dg ∧ w'.heap[dg]? = some (.cells (dskCells q 0 none 0 0 mg kg none 0 0) 104 (0, 0)) ∧ NamesAt w' mg [] ∧ NamesAt w' kg [] ∧ Ext w w' := by
 have hmm := @run_makeMap Tryz.prog
 have hmx := fun W => maxQ W q (by omega)
 have hN1 := NamesAt.made w
 have hN2 := NamesAt.made (w.alloc (.map #[] 0))
 have hE2 := ((Ext.refl w).alloc (.map #[] 0)).alloc (.map #[] 0)
 have hB := bN ((w.alloc (.map #[] 0)).alloc (.map #[] 0)) (.cells (dskCells q 0 none 0 0 w.heap.size (w.heap.size + 1) none 0 0) 104)
 go_enter Tryz.func26, Tryz.ntmps26
 go_wp2
 go_ret
 have hE3 := hE2.alloc (.cells (dskCells q 0 none 0 0 w.heap.size (w.heap.size + 1) none 0 0) 104)
 have hE31 := (((Ext.refl (w.alloc (.map #[] 0))).alloc (.map #[] 0)).alloc (.cells (dskCells q 0 none 0 0 w.heap.size (w.heap.size + 1) none 0 0) 104))
 have hE32 := ((Ext.refl ((w.alloc (.map #[] 0)).alloc (.map #[] 0))).alloc (.cells (dskCells q 0 none 0 0 w.heap.size (w.heap.size + 1) none 0 0) 104))
 rw [World.size_alloc] at hN2
 simp only [World.size_alloc] at hB
 exact ⟨w.heap.size + 1 + 1, w.heap.size, w.heap.size + 1, rfl, Nat.le_refl _, by omega, by omega, hB, hN1.ext hE31, hN2.ext hE32, hE3⟩
theorem crashC (F : Nat → Prop) (dg mg : Nat) (D : Dsk) (w : World) (h : DiskAt F w dg mg D) (hcl : D.clean = true) (hsafe : ∀ p ∈ D.M, ∃ fb : List Int, D.files[p.2]? = some (fb, (fb.length : Int))) (ch : Nat) (hch : ch ≤ 999999) (At : Option Addr) (ct : Nat) (ts : List Int) (hts : (rdInt .i64).Sl F w At ct ts) (htl : ts.length ≤ 1000) (htv : ∀ t ∈ ts, 0 ≤ t ∧ t ≤ 999999) (hF : ∀ k, F k → k < w.heap.size) :
   Calls Tryz.prog 282 #[BX dg, .int .i64 ch, .slice At ts.length ct] w fun e w' => ∃ dg' mg', e = .returned (BX dg') ∧ w.heap.size ≤ dg' ∧ w.heap.size ≤ mg' ∧ DiskAt F w' dg' mg' (crD D) ∧ Ext w w' := by
 have hDF := DFlt h hF
 have hD := h
 have hM2 := h.ml
 obtain ⟨fd, fm, le, sl, ql, h8, h9, h10, h11, h12, Af, cff, kg, Ac, cc, chs, K, hb, h1, h2, h3, h4, h5, h6, h7, h13⟩ := h
 obtain ⟨rfl, rfl⟩ := h7 hcl
 have hcm := cloneM w kg D.M h4
 have HCM := As.mk hcm
 have hmq := fun W => maxQ W ch (by omega)
 have hmn := fun W => minQ W ch (by omega)
 clear hcm h7
 (have p0 := bC (hb) 0; have p1 := bC (hb) 1; have p2 := bC (hb) 2; have p3 := bC (hb) 3; have p4 := bC (hb) 4; have p5 := bC (hb) 5; have p6 := bC (hb) 6; have p7 := bC (hb) 7; have p8 := bC (hb) 8)
 go_enter Tryz.func282, Tryz.ntmps282
 go_wp2_with (fail)
 refine HCM.out.mono ?_; rintro e w1 ⟨mg1, rfl, hg1, hN1, hE1⟩
 clear p0 p1 p2 p3 p4 p5 p6 p7 p8
 have hb1 := hE1.blk hb
 (have p0 := bC (hb1) 0; have p1 := bC (hb1) 1; have p2 := bC (hb1) 2; have p3 := bC (hb1) 3; have p4 := bC (hb1) 4; have p5 := bC (hb1) 5; have p6 := bC (hb1) 6; have p7 := bC (hb1) 7; have p8 := bC (hb1) 8)
 go_wp2_with (fail)
 go_quiet (fail)
 go_wp2_with (fail)
 refine wp_loop_rounds 1 ?_
 rw [rounds_succ]
 go_wp2_with (fail)
 have hE1d : Ext w (w1.drewN nq) := hE1.drewN _
 have hNd := hN1.ext ((Ext.refl w1).drewN nq)
 have hnw := new0C D.quota (by omega) (w1.drewN nq)
 generalize w1.drewN nq = wd at *
 refine hnw.mono ?_; rintro e w2 ⟨xg, xm, xk, rfl, hxm, hxk, hxg, hx2, hn2, hk2, hE2⟩
 clear p0 p1 p2 p3 p4 p5 p6 p7 p8 hnw hb1 hN1
 have hE02 := hE1d.trans hE2
 have hx2l := blk_lt hx2
 have hFX2 : ∀ j, DF F xg xm j → j < w2.heap.size := fun j q => by
   rcases q with q | q | q
   · exact FExt hF hE02 j q
   · omega
   · omega
 have hso := sortedC (DF F xg xm) mg1 D.M (by omega) w2 (hNd.ext hE2) hFX2
 have HSO := As.mk hso
 clear hso
 go_wp2_with (fail)
 refine HSO.out.mono ?_; rintro e w3 ⟨An, cn, rfl, hsn, hE3⟩
 have hE03 := hE02.trans hE3
 have hb3 := hE03.blk hb
 have hx3 := hE3.blk hx2
 have hN3 := (hNd.ext hE2).ext hE3
 have hmd1 := hNd.lt
 have hlt := hD.lt
 obtain ⟨nm, hnm⟩ : ∃ nm, nm = D.M.map (·.1) := ⟨_, rfl⟩
 obtain ⟨fl, hfl⟩ : ∃ fl : List FileM, fl = D.M.map (fun p => D.files.getD p.2 ([], 0)) := ⟨_, rfl⟩
 have hnl : nm.length = D.M.length := by rw [hnm, List.length_map]
 have hfll : fl.length = D.M.length := by rw [hfl, List.length_map]
 rw [← hnm] at hsn
 have hsrt : nm.Pairwise ltN := by rw [hnm]; exact List.pairwise_map.2 h3.srt
 have hw1 := hE1d.size
 have hw2 := hE2.size
 have HNM := As.mk (And.intro hnm (And.intro hfl (And.intro hnl hfll)))
 clear hnm hfl hnl hfll
 obtain ⟨L, hL⟩ : ∃ L, D.M.length = L := ⟨_, rfl⟩
 rw [hL] at HNM
 have HLL := As.mk hL
 rw [hL]
 clear hL
 go_wp2_with (fail)
 go_loopw [51] (fun i wr => ∃ (k : Nat) (fv : Value), i = .int .i64 k ∧ k ≤ L ∧ wr.heap[xg]? = some (.cells #[.int .i64 D.quota, .int .i64 0, fv, .map (some xm), .map (some xk), .slice none 0 0, .slice none 0 0, .int .i64 (-1), .bool false] 104 (0, 0)) ∧ rdFile.Own (DF F xg xm) w3.heap.size 216 wr fv (fl.take k) ∧ NamesAt wr xm (crM (nm.take k)) ∧ Keep (fun j => j = xg ∨ j = xm) w3 wr) (fun i _ => L - (intOf i).toNat)
 case atStart => exact ⟨0, _, by go_num, Nat.zero_le _, hx3, Rd.Own.nil _ _ _ _ _, (hn2.ext hE3), Keep.refl _ _⟩
 case round =>
   obtain ⟨k, fv, rfl, hkl, hxr, hown, hnr, hk⟩ := hrel
   by_cases hlt2 : k < L
   · have hkM : k < D.M.length := by rw [HLL.out]; exact hlt2
     have hkn : k < nm.length := by rw [HNM.out.2.2.1]; exact hlt2
     obtain ⟨ba, oa, rfl, hca⟩ := str_get (hsn.keep (hk.mono (fun _ _ q => .inr q))) hkn
     obtain ⟨n, hn⟩ : ∃ n, nm[k] = n := ⟨_, rfl⟩
     obtain ⟨i, hi⟩ : ∃ i, (D.M[k]).2 = i := ⟨_, rfl⟩
     have hnD : n = (D.M[k]).1 := by rw [← hn]; simp only [HNM.out.1, List.getElem_map]
     have hmem : (n, i) ∈ D.M := by rw [hnD, ← hi]; exact List.getElem_mem _
     have hget1 := mem_getA h3.srt hmem
     have hsmall : n.size ≤ 1000 := h3.small _ hmem
     obtain ⟨fb, hfb0⟩ := hsafe _ hmem
     have hfb1 : D.files[i]? = some (fb, (fb.length : Int)) := hfb0
     have hil : i < D.files.length := (List.getElem?_eq_some_iff.1 hfb1).1
     have hfbl : fb.length ≤ 10000000 := h12 _ (List.mem_of_getElem? hfb1)
     have hflk : fl[k]'(by rw [HNM.out.2.2.2]; exact hlt2) = (fb, (fb.length : Int)) := by
       simp only [HNM.out.2.1, List.getElem_map]
       rw [show (D.M[k]).2 = i from hi, List.getD_eq_getElem?_getD, hfb1]; rfl
     rw [hn] at hca
     have hgF := hown.ge
     have hFA : ∀ j, Fv (DF F xg xm) fv j → j < wr.heap.size := fun j q => by
       have := hk.size; have := hE3.size
       rcases q with q | q
       · have := hFX2 j q; omega
       · exact (hgF j q).2
     have hsz3 := hE03.size
     have h1n := ((h1.narrow (G := Fv (DF F xg xm) fv) (by decide) (fun j hj q => by
       rcases q with (q | q | q) | q
       · exact .inl q
       · omega
       · omega
       · have := (hgF j q).1; omega)).ext hE03).keep (hk.mono (fun _ _ q => .inl (.inr q)))
     obtain ⟨b2, o2, A2, c2, rfl, r0, r1, hs2⟩ := file_get h1n hil
     rw [show D.files[i] = (fb, (fb.length : Int)) from (List.getElem?_eq_some_iff.1 hfb1).2] at r0 r1 hs2
     have hdx : ¬ (dg = xg ∨ dg = xm) := by rintro (q | q) <;> omega
     have hbr := hk.blk hdx hb3
     have hN1r := hN3.keep hk (by rintro (q | q) <;> omega)
     have hi0 : (i : Int) < (D.files.length : Int) := by omega
     have p2 := bC hbr 2
     dsimp only at r0 r1 hs2
     have hn0 := hn
     have HN0 := As.mk hn0
     clear hn0
     have HG1 := As.mk (And.intro hget1 (And.intro hflk hnD))
     clear hget1 hflk hnD hmem hfb0 hfb1 hi hn h1n
     have hEb := (Ext.refl wr).alloc (.cells #[.string n] 211)
     have bY := bN wr (.cells #[.string n] 211)
     go_wp2_with (fail)
     have hN1b := hN1r.ext hEb
     have pY := bC bY 0
     have P2 := hEb.cell p2
     have R0 := hEb.cell r0
     have R1 := hEb.cell r1
     generalize wr.alloc (.cells #[.string n] 211) = wb at *
     have keep : ∀ w', Ext wb w' → Ext wb w' ∧ w'.cell? ⟨dg, 2, none⟩ = some (.slice (some ⟨b2, o2, none⟩) D.files.length cff) ∧ w'.cell? ⟨wr.heap.size, 0, none⟩ = some (.string n) ∧ w'.cell? ⟨b2, o2 + i * 2, none⟩ = some (.slice A2 fb.length c2) ∧ w'.cell? ⟨b2, o2 + i * 2 + 1, none⟩ = some (.int .i64 fb.length) ∧ (Instr.lookup 101 (.map (some mg1)) (.agg #[.string n]) false).run Tryz.prog w' = .ok (.int .i64 i) w' := fun w' q => ⟨q, q.cell P2, q.cell pY, q.cell R0, q.cell R1, NamesAt.lookRun1 (hN1b.ext q) n (by unfold maxLen; omega) i HG1.out.1⟩
     have pY0 := pY
     clear P2 pY R0 R1 p2 r0 r1
     obtain ⟨-, P2, pY, R0, R1, hlk⟩ := keep wb (Ext.refl _)
     obtain ⟨zb, hzb⟩ : ∃ zb, wb.heap.size = zb := ⟨_, rfl⟩
     go_upto_region 11 with (fail)
     go_cut [13, 51] from 51 to 114 (fun z i wx => z = .pointer (some ⟨zb, 0, none⟩) ∧ i = .int .i64 k ∧ wx.heap[zb]? = some (.cells #[.slice A2 fb.length c2, .int .i64 fb.length] 216 (0, 0)) ∧ Ext wb wx)
     case first =>
       go_region_held3 (fun w' => Ext wb w' ∧ w'.cell? ⟨dg, 2, none⟩ = some (.slice (some ⟨b2, o2, none⟩) D.files.length cff) ∧ w'.cell? ⟨wr.heap.size, 0, none⟩ = some (.string n) ∧ w'.cell? ⟨b2, o2 + i * 2, none⟩ = some (.slice A2 fb.length c2) ∧ w'.cell? ⟨b2, o2 + i * 2 + 1, none⟩ = some (.int .i64 fb.length) ∧ (Instr.lookup 101 (.map (some mg1)) (.agg #[.string n]) false).run Tryz.prog w' = .ok (.int .i64 i) w') (((try dsimp only); refine keep _ ?_; first | with_reducible assumption | exact XE)) (fail)
       all_goals
         (try simp only [Exit.inBlock, Exit.then])
         go_wp2_with (fail)
         go_meet
         exact ⟨rfl, rfl, by rw [← hzb]; exact bN wb _, XE⟩
     case rest =>
       obtain ⟨rfl, rfl, hz, hEc⟩ := hcut
       have z0 := bC hz 0
       have z1 := bC hz 1
       have e1 : Int.tmod 1 1 = 0 := by decide
       clear P2 pY R0 R1 hlk keep
       generalize wc = wq at *
       have hxc := (hEb.trans hEc).blk hxr
       have hEbc := hEb.trans hEc
       have hFc := fun j q => Nat.lt_of_lt_of_le (hFA j q) hEbc.size
       have hclo := fun W (hW : Ext wq W) => cloneB (Fv (DF F xg xm) fv) A2 c2 fb W ((hs2.ext hEbc).ext hW) (by omega) (FExt hFc hW)
       have HCLO := As.mk hclo
       have hownc := hown.ext hEbc
       have hB3 : w3.heap.size ≤ wq.heap.size := Nat.le_trans hk.size hEbc.size
       have hxg3 : xg < w3.heap.size := blk_lt hx3
       have hxgc : xg < wq.heap.size := by omega
       have hgx : ∀ j, fv.ownBlock = some j → ¬ j = xg := fun j hj => by have := (hgF j hj).1; omega
       have hfk : As ((fl.take k).length = k) := ⟨by rw [List.length_take, HNM.out.2.2.2]; omega⟩
       have x2 := bC hxc 2
       have Y0 := hEc.cell pY0
       have hnc := hnr.ext hEbc
       clear hclo
       have hle2 := hs2.le
       have j0 : (0 : Int) ≤ (fb.length : Int) := by omega
       have j1 : (fb.length : Int) ≤ (c2 : Int) := by omega
       have htc := ((hts.narrow (G := DF F xg xm) (by decide) (fun j hj q => by
         rcases q with q | q | q
         · exact q
         · omega
         · omega)).ext hE03).keep (hk.mono (fun _ _ q => .inr q))
       replace htc := htc.ext hEbc
       have hge0 : 0 < ts.length → ∃ bt ot tv, At = some ⟨bt, ot, none⟩ ∧ wq.cell? ⟨bt, ot + k % ts.length, none⟩ = some (.int .i64 tv) := fun h0 => by
         obtain ⟨bt, ot, e, hc⟩ := int_get htc (k := k % ts.length) (Nat.mod_lt _ h0)
         exact ⟨bt, ot, _, e, hc⟩
       have hts0 : ts.length = 0 ∨ 0 < ts.length := by omega
       have HFK := hfk
       rcases hts0 with ht0 | ht0
       · have dt : decide (0 < ts.length) = false := decide_eq_false (by omega)
         clear hge0 ht0
         go_wp2_with (fail)
         go_upto_region 16 with (fail)
         go_cut [51] from 51 to 114 (fun i wx => i = .int .i64 k ∧ ∃ fv', wx.heap[xg]? = some (.cells #[.int .i64 D.quota, .int .i64 0, fv', .map (some xm), .map (some xk), .slice none 0 0, .slice none 0 0, .int .i64 (-1), .bool false] 104 (0, 0)) ∧ rdFile.Own (DF F xg xm) w3.heap.size 216 wx fv' (fl.take (k + 1)) ∧ Keep (fun j => j = xg ∨ fv.ownBlock = some j) wq wx)
         case first =>
           go_region_law (first | (go_simp; go_at_call 171; with_reducible refine Calls.mono (HCLO.out _ ?_) ?_; exact XE; rintro e w5 ⟨A5, c5, rfl, hs5, hE5⟩; have hx5 := Ext.trans (a := wq) XE hE5; have s2 := bC (hx5.blk hxc) 2; have s2a := Ext.cell ((Ext.refl w5).alloc (.cells #[.slice A5 fb.length c5, .int .i64 fb.length] 216)) s2; dsimp only) | (refine step_pushAt rfl (.tmp 96) (.tmp 104) 99 rfl rdFile elFile (by rfl) (hownc.ext XE) (by rfl) (by exact heap_alloc_new _ _) (y := ((fb, (fb.length : Int)) : FileM)) ⟨A5, c5, rfl, hs5.ext XE⟩ (by rw [hfk.out]; omega) (by rw [hfk.out]; unfold maxLen; omega) (Nat.le_trans hB3 (Ext.size (w := wq) XE)) ?_; intro v' w6 hown6 hg6 hat6; have hbx := (hg6.block xg (Nat.lt_of_lt_of_le hxgc (Ext.size (w := wq) XE)) (fun e => hgx xg e.symm rfl)).trans (Ext.blk (w := wq) XE hxc); have X2 := bC hbx 2; have Xf2 := bF hbx 2; obtain ⟨A9, c9, rfl, hc9, _⟩ := own_len hown6))
           all_goals
             (try simp only [Exit.inBlock, Exit.then])
             go_wp2_with (fail)
             go_meet
             have hlen : (fl.take k ++ [((fb, (fb.length : Int)) : FileM)]).length = min k fl.length + 1 := by simp
             have hsn2 : fl.take (k + 1) = fl.take k ++ [((fb, (fb.length : Int)) : FileM)] := by rw [take_snoc fl (by rw [HNM.out.2.2.2]; exact hlt2), HG1.out.2.1]
             have hb6 := bS hbx 2 (.slice A9 (fl.take k ++ [((fb, (fb.length : Int)) : FileM)]).length c9)
             have k6 := kS1 w6 xg 2 (.slice A9 (fl.take k ++ [((fb, (fb.length : Int)) : FileM)]).length c9)
             have hwn := hown6
             have hgx6 : ∀ j, (Value.slice A9 (fl.take k ++ [((fb, (fb.length : Int)) : FileM)]).length c9).ownBlock = some j → ¬ j = xg := fun j hj => by have := (hwn.ge j hj).1; omega
             have hown7 := hown6.keep2 (k6.mono (fun _ _ q => .inl (.inr (.inl q)))) (fun j hj => k6.block j (hwn.ge j hj).2 (hgx6 j hj))
             have kg6 : Keep (fun j => fv.ownBlock = some j) _ w6 := Keep.of_grown hg6 (fun j hj _ => hj)
             have kall := (((Ext.keep (w := wq) XE _).trans kg6).mono (G := fun j => j = xg ∨ fv.ownBlock = some j) (fun _ _ q => .inr q)).trans (k6.mono (fun _ _ q => .inl q))
             rw [hlen] at hb6 hown7 kall
             rw [← hsn2] at hown7
             exact ⟨rfl, _, hb6, hown7, kall⟩
         case rest =>
           obtain ⟨rfl, fv', hx6, hown6, k6⟩ := hcut
           have hgxr : ∀ j, fv.ownBlock = some j → w3.heap.size ≤ j ∧ j < wr.heap.size := hgF
           have hyx : ¬ (wr.heap.size = xg ∨ fv.ownBlock = some wr.heap.size) := by
             rintro (q | q)
             · have := hk.size; omega
             · exact absurd (hgxr _ q).2 (Nat.lt_irrefl _)
           have Y6 := k6.cell (a := ⟨wr.heap.size, 0, none⟩) hyx Y0
           have X3 := bC hx6 3
           have hn6 := hnc.keep k6 (by
             rintro (q | q)
             · omega
             · have := (hgxr _ q).1; omega)
           have hwc := k6.size
           clear Y0 x2 hxc
           go_wp2_with (fail)
           go_still_tail 6, (by kernel_rfl)
           change wpList _ _ _ _ _ wc.drew
           have hEd : Ext wc wc.drew := (Ext.refl wc).drew
           replace Y6 := hEd.cell Y6
           replace X3 := hEd.cell X3
           have hn7 := hn6.ext hEd
           generalize wc.drew = we at *
           have hlen6 : (crM (nm.take k)).length < 1000000 := by rw [crM_len, List.length_take]; omega
           go_wp2_with (first | (at_mapUpdate; refine store_ rfl _ _ _ rfl xm (crM (nm.take k)) rfl hn7 n hsmall k (by omega) rfl rfl hlen6 ?_; intro w7 hn8 hg8))
           have kg8 : Keep (fun j => j = xm) we w7 := Keep.of_grown hg8 (fun j hj _ => by cases hj; rfl)
           have hxm6 : ¬ xg = xm := by omega
           have hnk : nm.take (k + 1) = nm.take k ++ [n] := by rw [take_snoc nm hkn]; rw [HN0.out]
           go_roundw
           case rel =>
             refine ⟨k + 1, fv', by go_num, by omega, kg8.blk hxm6 (hEd.blk hx6), ?_, ?_, ?_⟩
             · have hge6 := hown6.ge
               exact (hown6.ext hEd).keep2 (kg8.mono (fun _ _ q => .inl (.inr (.inr q)))) (fun j hj => kg8.block j (Nat.lt_of_lt_of_le (hge6 j hj).2 hEd.size) (fun e => by have := (hge6 j hj).1; omega))
             · have e := crM_put (nm.take k) n (by rw [← hnk]; exact hsrt.sublist (List.take_sublist _ _))
               rw [hnk, ← e, show (nm.take k).length = k from by rw [List.length_take]; omega]
               exact hn8
             · exact ((((hk.post hEbc).newB (k6.mono (G := fun j => j = xg ∨ fv.ownBlock = some j) (fun _ _ q => q)) (fun j q => q.elim (fun q => .inl (.inl q)) (fun q => .inr (hgF j q).1))).post hEd).trans (kg8.mono (fun _ _ q => .inr q)))
           case measure => simp [intOf] <;> omega
       · obtain ⟨bt, ot, tv, rfl, htcell⟩ := hge0 ht0
         have hne : ¬ ts.length = 0 := by omega
         have hmod : Int.tmod (k : Int) (ts.length : Int) = ((k % ts.length : Nat) : Int) := rfl
         have hm1 : k % ts.length < ts.length := Nat.mod_lt _ ht0
         have htm : Int.tmod tv 1 = 0 := Int.tmod_one tv
         obtain ⟨mm, hmm⟩ : ∃ mm, k % ts.length = mm := ⟨_, rfl⟩
         rw [hmm] at hmod htcell hm1
         have i0 : (0 : Int) ≤ (mm : Int) := by omega
         have i1 : (mm : Int) < (ts.length : Int) := by omega
         clear hmm
         go_wp2_with (fail)
         go_upto_region 16 with (fail)
         go_cut [51] from 51 to 114 (fun i wx => i = .int .i64 k ∧ ∃ fv', wx.heap[xg]? = some (.cells #[.int .i64 D.quota, .int .i64 0, fv', .map (some xm), .map (some xk), .slice none 0 0, .slice none 0 0, .int .i64 (-1), .bool false] 104 (0, 0)) ∧ rdFile.Own (DF F xg xm) w3.heap.size 216 wx fv' (fl.take (k + 1)) ∧ Keep (fun j => j = xg ∨ fv.ownBlock = some j) wq wx)
         case first =>
           go_region_law (first | (go_simp; go_at_call 171; with_reducible refine Calls.mono (HCLO.out _ ?_) ?_; exact XE; rintro e w5 ⟨A5, c5, rfl, hs5, hE5⟩; have hx5 := Ext.trans (a := wq) XE hE5; have s2 := bC (hx5.blk hxc) 2; have s2a := Ext.cell ((Ext.refl w5).alloc (.cells #[.slice A5 fb.length c5, .int .i64 fb.length] 216)) s2; dsimp only) | (refine step_pushAt rfl (.tmp 96) (.tmp 104) 99 rfl rdFile elFile (by rfl) (hownc.ext XE) (by rfl) (by exact heap_alloc_new _ _) (y := ((fb, (fb.length : Int)) : FileM)) ⟨A5, c5, rfl, hs5.ext XE⟩ (by rw [hfk.out]; omega) (by rw [hfk.out]; unfold maxLen; omega) (Nat.le_trans hB3 (Ext.size (w := wq) XE)) ?_; intro v' w6 hown6 hg6 hat6; have hbx := (hg6.block xg (Nat.lt_of_lt_of_le hxgc (Ext.size (w := wq) XE)) (fun e => hgx xg e.symm rfl)).trans (Ext.blk (w := wq) XE hxc); have X2 := bC hbx 2; have Xf2 := bF hbx 2; obtain ⟨A9, c9, rfl, hc9, _⟩ := own_len hown6))
           all_goals
             (try simp only [Exit.inBlock, Exit.then])
             go_wp2_with (fail)
             go_meet
             have hlen : (fl.take k ++ [((fb, (fb.length : Int)) : FileM)]).length = min k fl.length + 1 := by simp
             have hsn2 : fl.take (k + 1) = fl.take k ++ [((fb, (fb.length : Int)) : FileM)] := by rw [take_snoc fl (by rw [HNM.out.2.2.2]; exact hlt2), HG1.out.2.1]
             have hb6 := bS hbx 2 (.slice A9 (fl.take k ++ [((fb, (fb.length : Int)) : FileM)]).length c9)
             have k6 := kS1 w6 xg 2 (.slice A9 (fl.take k ++ [((fb, (fb.length : Int)) : FileM)]).length c9)
             have hwn := hown6
             have hgx6 : ∀ j, (Value.slice A9 (fl.take k ++ [((fb, (fb.length : Int)) : FileM)]).length c9).ownBlock = some j → ¬ j = xg := fun j hj => by have := (hwn.ge j hj).1; omega
             have hown7 := hown6.keep2 (k6.mono (fun _ _ q => .inl (.inr (.inl q)))) (fun j hj => k6.block j (hwn.ge j hj).2 (hgx6 j hj))
             have kg6 : Keep (fun j => fv.ownBlock = some j) _ w6 := Keep.of_grown hg6 (fun j hj _ => hj)
             have kall := (((Ext.keep (w := wq) XE _).trans kg6).mono (G := fun j => j = xg ∨ fv.ownBlock = some j) (fun _ _ q => .inr q)).trans (k6.mono (fun _ _ q => .inl q))
             rw [hlen] at hb6 hown7 kall
             rw [← hsn2] at hown7
             exact ⟨rfl, _, hb6, hown7, kall⟩
         case rest =>
           obtain ⟨rfl, fv', hx6, hown6, k6⟩ := hcut
           have hgxr : ∀ j, fv.ownBlock = some j → w3.heap.size ≤ j ∧ j < wr.heap.size := hgF
           have hyx : ¬ (wr.heap.size = xg ∨ fv.ownBlock = some wr.heap.size) := by
             rintro (q | q)
             · have := hk.size; omega
             · exact absurd (hgxr _ q).2 (Nat.lt_irrefl _)
           have Y6 := k6.cell (a := ⟨wr.heap.size, 0, none⟩) hyx Y0
           have X3 := bC hx6 3
           have hn6 := hnc.keep k6 (by
             rintro (q | q)
             · omega
             · have := (hgxr _ q).1; omega)
           have hwc := k6.size
           clear Y0 x2 hxc
           go_wp2_with (fail)
           go_still_tail 6, (by kernel_rfl)
           change wpList _ _ _ _ _ wc.drew
           have hEd : Ext wc wc.drew := (Ext.refl wc).drew
           replace Y6 := hEd.cell Y6
           replace X3 := hEd.cell X3
           have hn7 := hn6.ext hEd
           generalize wc.drew = we at *
           have hlen6 : (crM (nm.take k)).length < 1000000 := by rw [crM_len, List.length_take]; omega
           go_wp2_with (first | (at_mapUpdate; refine store_ rfl _ _ _ rfl xm (crM (nm.take k)) rfl hn7 n hsmall k (by omega) rfl rfl hlen6 ?_; intro w7 hn8 hg8))
           have kg8 : Keep (fun j => j = xm) we w7 := Keep.of_grown hg8 (fun j hj _ => by cases hj; rfl)
           have hxm6 : ¬ xg = xm := by omega
           have hnk : nm.take (k + 1) = nm.take k ++ [n] := by rw [take_snoc nm hkn]; rw [HN0.out]
           go_roundw
           case rel =>
             refine ⟨k + 1, fv', by go_num, by omega, kg8.blk hxm6 (hEd.blk hx6), ?_, ?_, ?_⟩
             · have hge6 := hown6.ge
               exact (hown6.ext hEd).keep2 (kg8.mono (fun _ _ q => .inl (.inr (.inr q)))) (fun j hj => kg8.block j (Nat.lt_of_lt_of_le (hge6 j hj).2 hEd.size) (fun e => by have := (hge6 j hj).1; omega))
             · have e := crM_put (nm.take k) n (by rw [← hnk]; exact hsrt.sublist (List.take_sublist _ _))
               rw [hnk, ← e, show (nm.take k).length = k from by rw [List.length_take]; omega]
               exact hn8
             · exact ((((hk.post hEbc).newB (k6.mono (G := fun j => j = xg ∨ fv.ownBlock = some j) (fun _ _ q => q)) (fun j q => q.elim (fun q => .inl (.inl q)) (fun q => .inr (hgF j q).1))).post hEd).trans (kg8.mono (fun _ _ q => .inr q)))
           case measure => simp [intOf] <;> omega
   · obtain rfl : k = L := by omega
     have ht1 : nm.take k = nm := List.take_of_length_le (by rw [HNM.out.2.2.1]; omega)
     have ht2 : fl.take k = fl := List.take_of_length_le (by rw [HNM.out.2.2.2]; omega)
     rw [ht1] at hnr
     rw [ht2] at hown
     obtain ⟨Af9, cf9, rfl, hsl⟩ := hown.shut (fun j q => Nat.lt_of_lt_of_le (hFX2 j q) hE3.size)
     have HC2 := As.mk (cloneM wr xm (crM nm) hnr)
     have HSL := As.mk hsl
     have x3 := bC hxr 3
     have hmg : xm < wr.heap.size := hnr.lt
     have hxgr : xg < wr.heap.size := blk_lt hxr
     have HKR := As.mk hk
     clear ht1 ht2 hsl hown hmg
     go_wp2_with (fail)
     refine HC2.out.mono ?_; rintro e w9 ⟨mg9, rfl, hg9, hN9, hE9⟩
     have hx9 := hE9.blk hxr
     have y4 := bC hx9 4
     have yf4 := bF hx9 4
     go_wp2_with (fail)
     go_ret
     have hcd : crD D = ⟨D.quota, 0, k, fl, crM nm, true⟩ := by rw [HNM.out.1, HNM.out.2.1]; unfold crD; rw [HLL.out]
     have hK := kS1 w9 xg 4 (.map (some mg9))
     have hb9 := bS hx9 4 (.map (some mg9))
     have hx3g : xg < w3.heap.size := blk_lt hx3
     have hwx : Ext w (w9.setCell ⟨xg, 4, none⟩ (.map (some mg9))) := (Ext.keepNew hE03 HKR.out (fun j q => by omega)).trans hE9 |>.setCell (by show w.heap.size ≤ xg; omega) _
     have hnr9 := hnr.ext hE9
     have hxmx : xm ≠ xg := hnr9.notCells hx9
     have hmgx : mg9 ≠ xg := hN9.notCells hx9
     have hlr := hnr.lt
     refine ⟨xg, xm, rfl, by omega, by omega, ?_, hwx⟩
     rw [hcd]
     refine ⟨fun q => by have := hF _ q; omega, fun q => by have := hF _ q; omega, (by show k ≤ 100000; have := HLL.out; omega), Nat.zero_le _, ql, ?_, ?_, (by show fl.length ≤ k; rw [HNM.out.2.2.2]; exact Nat.le_refl _), (by show (crM nm).length ≤ k; rw [crM_len, HNM.out.2.2.1]; exact Nat.le_refl _), ?_, Af9, cf9, mg9, none, 0, [], crM nm, hb9, ?_, Rd.Sl.nil0 _ _ _, hnr9.keep hK hxmx, hN9.keep hK hmgx, (by omega), (fun q => by have := hF _ q; omega), (fun _ => ⟨rfl, rfl⟩), Nat.zero_le _⟩
     · intro p hp
       show p.2 < fl.length
       have := List.snd_lt_of_mem_zipIdx hp
       rw [HNM.out.2.2.2]; rw [HNM.out.2.2.1] at this; omega
     · intro p hp q hq e
       have h1 := List.mem_zipIdx' hp
       have h2 := List.mem_zipIdx' hq
       rw [h1.2, h2.2]; congr 1
     · intro f hf
       change f ∈ fl at hf
       rw [HNM.out.2.1] at hf
       obtain ⟨p, hp, rfl⟩ := List.mem_map.1 hf
       rw [List.getD_eq_getElem?_getD, List.getElem?_eq_getElem (h8 _ hp)]
       exact h12 _ (List.getElem_mem _)
     · exact (HSL.out.ext hE9).keep (hK.mono (fun _ _ q => .inr (.inl q)))
end K87
end Go.Proofs.YtbjeejimedhniaaGreatDoor
