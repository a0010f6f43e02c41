/- Contracts of the program's functions, as the walks of the law use them. -/
import Derived.Test.YtbjeejimedhniaaGreatDoorD10
import Derived.Test.YtbjeejimedhniaaGreatDoorD9
import Derived.Test.YtbjeejimedhniaaGreatDoorD2
import Derived.Test.YtbjeejimedhniaaGreatDoorD3
import Derived.BigRegion
import Derived.RegionTactic
import Derived.Deep.DeepCutAuto
import Derived.WalkMore
set_option linter.unusedVariables false
set_option linter.unusedSimpArgs false
set_option maxRecDepth 100000
set_option maxHeartbeats 2000000
namespace Go.Proofs.YtbjeejimedhniaaGreatDoor
namespace P4
open Go Go.RowKit
open KB K1 K2 K3 K5 K6 K8 K9 K12 K14 K15 K16 K17 P2 P3 Num
theorem cmpI_ord : Ord cmpI (fun _ => True) where
 sym := by intro a b _ _; unfold cmpI; split <;> split <;> (try split) <;> (try split) <;> omega
 trans := by intro a b d _ _ _ h1 h2; unfold cmpI at *; split at h1 <;> split at h2 <;> (try split at h1) <;> (try split at h2) <;> (try split) <;> (try split) <;> omega
theorem cb_sym : ∀ a b : List UInt8, (Lib.compareBytes a b < 0 ↔ 0 < Lib.compareBytes b a)
 | [], [] => by simp [Lib.compareBytes]
 | [], _ :: _ => by simp [Lib.compareBytes]
 | _ :: _, [] => by simp [Lib.compareBytes]
 | a :: l1, b :: l2 => by
   have ih := cb_sym l1 l2
   rw [Lib.compareBytes, Lib.compareBytes]
   simp only [UInt8.lt_iff_toNat_lt]
   rcases Nat.lt_trichotomy a.toNat b.toNat with h | h | h
   · rw [if_pos h, if_neg (by omega), if_pos h]; decide
   · rw [if_neg (by omega), if_neg (by omega), if_neg (by omega), if_neg (by omega)]; exact ih
   · rw [if_neg (by omega), if_pos h, if_pos h]; decide
theorem cb_trans : ∀ a b d : List UInt8, Lib.compareBytes a b ≤ 0 → Lib.compareBytes b d ≤ 0 → Lib.compareBytes a d ≤ 0
 | [], _, [] => by simp [Lib.compareBytes]
 | [], _, _ :: _ => by simp [Lib.compareBytes]
 | _ :: _, [], _ => by simp [Lib.compareBytes]
 | _ :: _, _ :: _, [] => by simp [Lib.compareBytes]
 | a :: l1, b :: l2, d :: l3 => by
   have ih := cb_trans l1 l2 l3
   rw [Lib.compareBytes, Lib.compareBytes, Lib.compareBytes]
   simp only [UInt8.lt_iff_toNat_lt]
   intro h1 h2
   rcases Nat.lt_trichotomy a.toNat b.toNat with h | h | h
   · rcases Nat.lt_trichotomy b.toNat d.toNat with g | g | g
     · rw [if_pos (by omega)]; decide
     · rw [if_pos (by omega)]; decide
     · rw [if_neg (by omega), if_pos g] at h2; exact absurd h2 (by decide)
   · rw [if_neg (by omega), if_neg (by omega)] at h1
     rcases Nat.lt_trichotomy b.toNat d.toNat with g | g | g
     · rw [if_pos (by omega)]; decide
     · rw [if_neg (by omega), if_neg (by omega)] at h2 ⊢; exact ih h1 h2
     · rw [if_neg (by omega), if_pos g] at h2; exact absurd h2 (by decide)
   · rw [if_neg (by omega), if_pos h] at h1; exact absurd h1 (by decide)
theorem cmpV_ord (t : Int) : Ord (cmpV t) (fun _ => True) where
 sym := by
   intro a b _ _
   unfold cmpV
   split
   · exact cb_sym _ _
   · split
     · exact cmpI_ord.sym _ _ trivial trivial
     · exact cmpI_ord.sym _ _ trivial trivial
 trans := by
   intro a b d _ _ _
   unfold cmpV
   split
   · exact cb_trans _ _ _
   · split
     · exact cmpI_ord.trans _ _ _ trivial trivial trivial
     · exact cmpI_ord.trans _ _ _ trivial trivial trivial
theorem cmpL_sym : ∀ (ts : List Int) (a b : Row), ts.length ≤ a.length → ts.length ≤ b.length → (cmpL ts a b < 0 ↔ 0 < cmpL ts b a)
 | [], _, _, _, _ => by simp [cmpL]
 | t :: ts, [], _, h, _ => by simp at h
 | t :: ts, _ :: _, [], _, h => by simp at h
 | t :: ts, x :: a, y :: b, h1, h2 => by
   have ih := cmpL_sym ts a b (by simpa using h1) (by simpa using h2)
   have hv := (cmpV_ord t).sym x y trivial trivial
   have hz : cmpV t x y = 0 ↔ cmpV t y x = 0 := ⟨(cmpV_ord t).zero trivial trivial, (cmpV_ord t).zero trivial trivial⟩
   rw [cmpL, cmpL]
   by_cases h : cmpV t x y = 0
   · rw [if_pos h, if_pos (hz.1 h)]; exact ih
   · rw [if_neg h, if_neg (fun e => h (hz.2 e))]; exact hv
theorem cmpL_trans : ∀ (ts : List Int) (a b d : Row), ts.length ≤ a.length → ts.length ≤ b.length → ts.length ≤ d.length → cmpL ts a b ≤ 0 → cmpL ts b d ≤ 0 → cmpL ts a d ≤ 0
 | [], _, _, _, _, _, _, _, _ => by simp [cmpL]
 | t :: ts, [], _, _, h, _, _, _, _ => by simp at h
 | t :: ts, _ :: _, [], _, _, h, _, _, _ => by simp at h
 | t :: ts, _ :: _, _ :: _, [], _, _, h, _, _ => by simp at h
 | t :: ts, x :: a, y :: b, z :: d, h1, h2, h3, e1, e2 => by
   have ih := cmpL_trans ts a b d (by simpa using h1) (by simpa using h2) (by simpa using h3)
   have O := cmpV_ord t
   rw [cmpL] at e1 e2 ⊢
   have s1 : cmpV t x y ≤ 0 := by split at e1 <;> omega
   have s2 : cmpV t y z ≤ 0 := by split at e2 <;> omega
   have s3 := O.trans x y z trivial trivial trivial s1 s2
   by_cases h : cmpV t x z = 0
   · rw [if_pos h]
     have g1 := O.trans y z x trivial trivial trivial s2 (by have := O.zero trivial trivial h; omega)
     have g2 := O.trans z x y trivial trivial trivial (by have := O.zero trivial trivial h; omega) s1
     have g3 := O.le trivial trivial g1
     have g4 := O.le trivial trivial g2
     rw [if_pos (by omega)] at e1 e2
     exact ih e1 e2
   · rw [if_neg h]; exact s3
theorem cmpS_ord (s : Sch) : Ord (cmpS s) (RowOk s) where
 sym := fun a b ha hb => cmpL_sym _ a b ha.key.1 hb.key.1
 trans := fun a b d ha hb hd => cmpL_trans _ a b d ha.key.1 hb.key.1 hd.key.1
theorem inOrder_srt {s : Sch} {l : List Row} (hl : ∀ r ∈ l, RowOk s r) : InOrder (cmpS s) l ↔ Srt (cmpS s) l := by
 constructor
 · induction l with
   | nil => intro _; exact .nil
   | cons a l ih =>
     intro h
     have hl' : ∀ r ∈ l, RowOk s r := fun r hr => hl r (List.mem_cons_of_mem _ hr)
     have hs := ih hl' (fun i hi => by have := h (i + 1) (by simp; omega); simpa using this)
     refine List.pairwise_cons.2 ⟨fun b hb => ?_, hs⟩
     cases l with
     | nil => cases hb
     | cons b' l =>
       have h0 := h 0 (by simp)
       have oa := hl a (List.mem_cons_self ..)
       have ob' := hl' b' (List.mem_cons_self ..)
       have h1 : cmpS s a b' ≤ 0 := (cmpS_ord s).ge ob' oa (by simpa using h0)
       rcases List.mem_cons.1 hb with e | e
       · rw [e]; exact h1
       · exact (cmpS_ord s).trans a b' b oa ob' (hl' b hb) h1 ((List.pairwise_cons.1 hs).1 b e)
 · intro h i hi
   have h1 := List.pairwise_iff_getElem.1 h i (i + 1) (by omega) hi (by omega)
   exact (cmpS_ord s).le (hl _ (List.getElem_mem _)) (hl _ (List.getElem_mem _)) h1
theorem granB_length (ts : List Int) : ∀ C : List (List Row), (∀ g ∈ C, 1 ≤ g.length ∧ g.length ≤ 100000) → (granB ts C).length ≤ ts.length * (34 * C.flatten.length) := by
 intro C
 induction C with
 | nil => intro _; simp [granB]
 | cons g C ih =>
   intro h
   obtain ⟨h1, h2⟩ := h g (List.mem_cons_self ..)
   have h3 := ih (fun g hg => h g (List.mem_cons_of_mem _ hg))
   have h4 := colsB_length g h2 ts 0
   rw [granB_cons, List.length_append, List.flatten_cons, List.length_append]
   have h5 : ts.length * (8 * g.length + 26) ≤ ts.length * (34 * g.length) := Nat.mul_le_mul_left _ (by omega)
   have h6 : ts.length * (34 * (g.length + C.flatten.length)) = ts.length * (34 * g.length) + ts.length * (34 * C.flatten.length) := by rw [Nat.mul_add, Nat.mul_add]
   omega
theorem chunks_flat (g : Nat) (hg : 1 ≤ g) (n : Nat) : ∀ l : List Row, l.length ≤ n → (chunks g l).flatten = l := by
 induction n with
 | zero => intro l h; obtain rfl : l = [] := List.eq_nil_of_length_eq_zero (by omega); simp [chunks_nil]
 | succ n ih =>
   intro l h
   by_cases hl : l = []
   · subst hl; simp [chunks_nil]
   · have hp : 0 < l.length := List.length_pos_iff.2 hl
     rw [chunks_step g hg hl, List.flatten_cons, ih (l.drop g) (by rw [List.length_drop]; omega), List.take_append_drop]
theorem partB_length (s : Sch) (hs : s.Ok) (l : List Row) (hl : l.length ≤ 2000) : (partB s l).length ≤ s.types.length * (42 * l.length + 26) + 8 * l.length + 130 := by
 have hg := chunks_flat s.grain hs.g1 l.length l (Nat.le_refl _)
 have hc := chunks_pos s.grain hs.g1 l.length l (Nat.le_refl _)
 have hc2 := chunks_le s.grain hs.g1 l.length l (Nat.le_refl _)
 have hcl := chunks_length s.grain hs.g1 l.length l (Nat.le_refl _)
 have h1 := granB_length s.types (chunks s.grain l) (fun g hg' => ⟨(hc g hg').1, by have := hc2 g hg'; omega⟩)
 rw [hg] at h1
 have hpl : (putSch s).length ≤ 68 := by rw [putSch, putN_length _ (nums_small hs), nums_length]; have := hs.n2; omega
 have hhl : (head s).length ≤ 82 := by
   have h1 := pv_le10 (putSch s).length (by omega)
   rw [head, frame_length]; omega
 have hml : (marks s l).length ≤ l.length := by rw [marks, List.length_map]; exact hcl
 have h2 := colsB_length (marks s l) (by omega) (s.types.take s.keys) 0
 have h3 : (s.types.take s.keys).length * (8 * (marks s l).length + 26) ≤ s.types.length * (8 * l.length + 26) := Nat.mul_le_mul (by rw [List.length_take]; omega) (by omega)
 have h4 := putB_length 2 (places (head s).length s.types (chunks s.grain l)) (by rw [places_length]; omega)
 rw [places_length] at h4
 have h5 : s.types.length * (42 * l.length + 26) = s.types.length * (34 * l.length) + s.types.length * (8 * l.length + 26) := by rw [← Nat.mul_add]; congr 1; omega
 have h8 : ∀ x, (le8 x).length = 8 := fun _ => rfl
 rw [partB, body, tailB]
 simp only [List.length_append, h8]
 omega
end P4
namespace K62
open Go Go.RowKit
open KB K1 K2 K3 K5 P1 P2
abbrev BP (a : Nat) : Value := .pointer (some ⟨a, 0, none⟩)
abbrev SrcM := Src Row
def rdSrc : Rd SrcM where
 sz := 2
 C := fun F w cs x => ∃ A c, cs = [.slice A x.1.length c, .int .i64 x.2] ∧ rdRow.Sl F w A c x.1
 len := by rintro _ _ _ _ ⟨A, c, rfl, _⟩; rfl
 keep := by rintro _ _ _ _ _ k ⟨A, c, rfl, h⟩; exact ⟨A, c, rfl, h.keep k⟩
 narrow := by rintro _ _ _ _ _ k ⟨A, c, rfl, h⟩; exact ⟨A, c, rfl, h.narrow (by decide) k⟩
 one := by rintro _ _ _ _ ⟨A, c, rfl, _⟩ u hu; simp at hu; rcases hu with rfl | rfl <;> rfl
abbrev qCells (Ax : Option Addr) (cx : Nat) (s : Sch) (lg n cap : Nat) : Array Value := #[.slice Ax s.types.length cx, .int .i64 s.keys, .int .i64 s.mode, .int .i64 s.grain, .slice (some ⟨lg, 0, none⟩) n cap]
structure HeapAt (F : Nat → Prop) (w : World) (qg lg cap : Nat) (Ax : Option Addr) (cx : Nat) (s : Sch) (l : List SrcM) : Prop where
 blk : w.heap[qg]? = some (.cells (qCells Ax cx s lg l.length cap) 290 (0, 0))
 own : rdSrc.Own (fun k => F k ∨ k = qg) 0 292 w (.slice (some ⟨lg, 0, none⟩) l.length cap) l
 ne : ¬ qg = lg
 cp : l.length ≤ cap
 sch : SchAt (fun k => (F k ∨ k = qg) ∨ k = lg) w Ax cx s
theorem HeapAt.ext {F : Nat → Prop} {w w' : World} {qg lg cap : Nat} {Ax : Option Addr} {cx : Nat} {s : Sch} {l : List SrcM} (h : HeapAt F w qg lg cap Ax cx s l) (k : Ext w w') : HeapAt F w' qg lg cap Ax cx s l :=
 ⟨k.blk h.blk, h.own.ext k, h.ne, h.cp, Rd.Sl.ext h.sch k⟩
theorem HeapAt.src {F : Nat → Prop} {w : World} {qg lg cap : Nat} {Ax : Option Addr} {cx : Nat} {s : Sch} {l : List SrcM} (h : HeapAt F w qg lg cap Ax cx s l) {i : Nat} (hi : i < l.length) :
   ∃ A c, w.cell? ⟨lg, i * 2, none⟩ = some (.slice A l[i].1.length c) ∧ w.cell? ⟨lg, i * 2 + 1, none⟩ = some (.int .i64 l[i].2) ∧ rdRow.Sl (fun k => (F k ∨ k = qg) ∨ k = lg) w A c l[i].1 := by
 obtain ⟨cs, ⟨A, c, rfl, hs⟩, h1, h2⟩ := h.own.cellj hi
 refine ⟨A, c, h1 0 _ rfl, h1 1 _ rfl, hs.narrow (by decide) (fun k _ q => q.elim .inl (fun e => .inr (by rw [e]; rfl)))⟩
theorem row_get {F : Nat → Prop} {w : World} {A : Option Addr} {c : Nat} {l : List Row} (h : rdRow.Sl F w A c l) {k : Nat} (hk : k < l.length) : ∃ b o A2 c2, A = some ⟨b, o, none⟩ ∧ w.cell? ⟨b, o + k, none⟩ = some (.slice A2 l[k].length c2) ∧ rdVal.Sl F w A2 c2 l[k] := sl_get h hk
theorem lenC (qg : Nat) (Ax : Option Addr) (cx : Nat) (s : Sch) (v : Value) (A : Option Addr) (n cap : Nat) (w : World) (h : w.heap[qg]? = some (.cells #[.slice Ax s.types.length cx, .int .i64 s.keys, .int .i64 s.mode, .int .i64 s.grain, .slice A n cap] 290 (0, 0))) :
   Calls Tryz.prog 212 #[BP qg] w fun e w' => e = .returned (.int .i64 n) ∧ w' = w := by
 have p4 := bC h 4
 go_enter Tryz.func212, Tryz.ntmps212
 go_wp2
 go_ret
 exact ⟨rfl, rfl⟩
def orI (a b : Int) : Int := if a = 0 then b else a
theorem or2C (a b : Int) (g c : Nat) (w : World) (h0 : w.cell? ⟨g, 0, none⟩ = some (.int .i64 a)) (h1 : w.cell? ⟨g, 1, none⟩ = some (.int .i64 b)) :
   Calls Tryz.prog 440 #[.slice (some ⟨g, 0, none⟩) 2 c] w fun e w' => e = .returned (.int .i64 (orI a b)) ∧ w' = w := by
 unfold orI
 go_enter Tryz.func440, Tryz.ntmps440
 go_wp2_with (fail)
 refine wp_loop_rounds 3 ?_
 rw [rounds_succ]
 by_cases ha : a = 0
 · subst ha
   go_wp2_with (fail)
   rw [rounds_succ]
   by_cases hb : b = 0
   · subst hb
     go_wp2_with (fail)
     rw [rounds_succ]
     go_wp2
     go_ret
     exact ⟨rfl, rfl⟩
   · have d : decide (b = 0) = false := decide_eq_false hb
     go_wp2
     go_ret
     exact ⟨by simp, rfl⟩
 · have d : decide (a = 0) = false := decide_eq_false ha
   go_wp2
   go_ret
   exact ⟨by simp [ha], rfl⟩
theorem elSrc : El Tryz.prog 288 292 rdSrc.sz 32 := El.mk (z := .agg #[.slice none 0 0, .int .i64 0]) Tryz.underlying288 (by kernel_rfl) rfl (by decide)
def SrcOk (s : Sch) (x : SrcM) : Prop := x.1 ≠ [] ∧ ∀ r ∈ x.1, RowOk s r
theorem lessC (F : Nat → Prop) (qg lg cap : Nat) (Ax : Option Addr) (cx : Nat) (s : Sch) (hs : s.Ok) (l : List SrcM) (w : World) (h : HeapAt F w qg lg cap Ax cx s l) (i k : Nat) (hi : i < l.length) (hk : k < l.length) (oi : SrcOk s l[i]) (ok : SrcOk s l[k]) :
   Calls Tryz.prog 437 #[BP qg, .int .i64 i, .int .i64 k] w fun e w' => e = .returned (.bool (ltS (cmpS s) (l.getD i ([], 0)) (l.getD k ([], 0)))) ∧ Ext w w' := by
 obtain ⟨A1, c1, a0, a1, a2⟩ := h.src hi
 obtain ⟨A2, c2, b0, b1, b2⟩ := h.src hk
 have e1 : l.getD i ([], 0) = l[i] := by simp [List.getD_eq_getElem?_getD, hi]
 have e2 : l.getD k ([], 0) = l[k] := by simp [List.getD_eq_getElem?_getD, hk]
 rw [e1, e2]
 clear e1 e2
 obtain ⟨n1, n2⟩ := oi
 obtain ⟨m1, m2⟩ := ok
 generalize l[i] = x at *
 generalize l[k] = y at *
 obtain ⟨_ | ⟨r1, t1⟩, j1⟩ := x
 · exact absurd rfl n1
 obtain ⟨_ | ⟨r2, t2⟩, j2⟩ := y
 · exact absurd rfl m1
 obtain ⟨g1, o1, A3, c3, rfl, f0, f1⟩ := row_get a2 (k := 0) (by simp)
 obtain ⟨g2, o2, A4, c4, rfl, q0, q1⟩ := row_get b2 (k := 0) (by simp)
 simp only [List.getElem_cons_zero, List.length_cons] at f0 f1 q0 q1 a0 b0 a1 b1 n2 m2
 rw [Nat.add_zero] at f0 q0
 have ho1 := n2 r1 (List.mem_cons_self ..)
 have ho2 := m2 r2 (List.mem_cons_self ..)
 clear a2 b2 n1 n2 m1 m2
 have hlt : ltS (cmpS s) (r1 :: t1, j1) (r2 :: t2, j2) = decide (orI (cmpS s r1 r2) (cmpI (j1 : Int) j2) < 0) := by
   unfold ltS cmpI orI
   by_cases e : cmpS s r1 r2 = 0
   · simp only [e, if_true]
     by_cases h1 : j1 < j2
     · simp [h1, Int.ofNat_lt.2 h1]
     · have h2 : ¬ ((j1 : Int) < j2) := by omega
       simp only [h1, h2, if_false, decide_false]
       split <;> simp
   · simp [e]
 rw [hlt]
 clear hlt
 have d0 : (0 : Int) ≤ i := by omega
 have d1 : (i : Int) < l.length := by omega
 have d2 : (0 : Int) ≤ k := by omega
 have d3 : (k : Int) < l.length := by omega
 have hsch := h.sch
 have hB := h.blk
 (have p0 := bC (hB) 0; have p1 := bC (hB) 1; have p2 := bC (hB) 2; have p3 := bC (hB) 3; have p4 := bC (hB) 4)
 have hq : qg < w.heap.size := blk_lt hB
 have hlg : lg < w.heap.size := (h.own.ge lg rfl).2
 clear h
 go_enter Tryz.func437, Tryz.ntmps437
 go_wp2_with (fail)
 go_cut [7, 8] (fun s7 s8 wx => ∃ y1 y2, s7 = BP y1 ∧ s8 = BP y2 ∧ Ext w wx ∧ wx.cell? ⟨y1, 0, none⟩ = some (.slice (some ⟨g1, o1, none⟩) (t1.length + 1) c1) ∧ wx.cell? ⟨y1, 1, none⟩ = some (.int .i64 j1) ∧ wx.cell? ⟨y2, 0, none⟩ = some (.slice (some ⟨g2, o2, none⟩) (t2.length + 1) c2) ∧ wx.cell? ⟨y2, 1, none⟩ = some (.int .i64 j2))
 case first =>
   go_region
   all_goals
     (try simp only [Exit.inBlock, Exit.then])
     go_wp2_with (fail)
     go_meet
     refine ⟨_, _, rfl, rfl, ?_, ?_, ?_, ?_, ?_⟩
     · repeat (first | (refine Ext.setCell ?_ (by simp <;> omega) _) | refine Ext.drew ?_ | refine Ext.alloc ?_ _)
       exact Ext.refl _
     all_goals go_cell
 case rest =>
   obtain ⟨y1, y2, rfl, rfl, hE, z0, z1, z2, z3⟩ := hcut
   have y1s := World.block_lt_of_cell? _ _ z0
   have y2s := World.block_lt_of_cell? _ _ z2
   have v0 := hE.cell p0
   have v1 := hE.cell p1
   have v2 := hE.cell p2
   have v3 := hE.cell p3
   have x0 := hE.cell f0
   have x1 := hE.cell q0
   have hcc := fun W (hW : Ext wc W) => compareS _ Ax cx s A3 A4 c3 c4 r1 r2 W (Rd.Sl.ext (Rd.Sl.ext hsch hE) hW) hs ((f1.ext hE).ext hW) ((q1.ext hE).ext hW) ho1.key ho2.key
   have ex := hE
   clear p0 p1 p2 p3 p4 f0 q0 a0 a1 b0 b1 hsch f1 q1 hB ho1 ho2
   have keep : ∀ w', Ext wc w' → Ext wc w' ∧ w'.cell? ⟨qg, 0, none⟩ = some (.slice Ax s.types.length cx) ∧ w'.cell? ⟨qg, 1, none⟩ = some (.int .i64 s.keys) ∧ w'.cell? ⟨qg, 2, none⟩ = some (.int .i64 s.mode) ∧ w'.cell? ⟨qg, 3, none⟩ = some (.int .i64 s.grain) ∧ w'.cell? ⟨y1, 0, none⟩ = some (.slice (some ⟨g1, o1, none⟩) (t1.length + 1) c1) ∧ w'.cell? ⟨y1, 1, none⟩ = some (.int .i64 j1) ∧ w'.cell? ⟨y2, 0, none⟩ = some (.slice (some ⟨g2, o2, none⟩) (t2.length + 1) c2) ∧ w'.cell? ⟨y2, 1, none⟩ = some (.int .i64 j2) ∧ w'.cell? ⟨g1, o1, none⟩ = some (.slice A3 r1.length c3) ∧ w'.cell? ⟨g2, o2, none⟩ = some (.slice A4 r2.length c4) := fun w' h => ⟨h, h.cell v0, h.cell v1, h.cell v2, h.cell v3, h.cell z0, h.cell z1, h.cell z2, h.cell z3, h.cell x0, h.cell x1⟩
   go_wp2_with (fail)
   go_region_held3 (fun w' => Ext wc w' ∧ w'.cell? ⟨qg, 0, none⟩ = some (.slice Ax s.types.length cx) ∧ w'.cell? ⟨qg, 1, none⟩ = some (.int .i64 s.keys) ∧ w'.cell? ⟨qg, 2, none⟩ = some (.int .i64 s.mode) ∧ w'.cell? ⟨qg, 3, none⟩ = some (.int .i64 s.grain) ∧ w'.cell? ⟨y1, 0, none⟩ = some (.slice (some ⟨g1, o1, none⟩) (t1.length + 1) c1) ∧ w'.cell? ⟨y1, 1, none⟩ = some (.int .i64 j1) ∧ w'.cell? ⟨y2, 0, none⟩ = some (.slice (some ⟨g2, o2, none⟩) (t2.length + 1) c2) ∧ w'.cell? ⟨y2, 1, none⟩ = some (.int .i64 j2) ∧ w'.cell? ⟨g1, o1, none⟩ = some (.slice A3 r1.length c3) ∧ w'.cell? ⟨g2, o2, none⟩ = some (.slice A4 r2.length c4)) (((try dsimp only); refine keep _ ?_; first | with_reducible assumption | exact XE)) (first | (go_at_call 52; refine (hcc _ XE).mono ?_; rintro e w1 ⟨rfl, hE1⟩; have hE9 := Ext.trans (a := wc) XE hE1) | (go_at_call 441; refine (cmpNC _ _ _).mono ?_; rintro e w2 ⟨rfl, hw2⟩; have hE2 : Ext wc w2 := (by rw [← hw2]; exact XE)) | (go_at_call 440; refine (or2C (cmpS s r1 r2) (cmpI j1 j2) _ _ _ (bC (bN _ _) 0) (bC (bN _ _) 1)).mono ?_; rintro e w3 ⟨rfl, hw3⟩; have hE3 : Ext wc w3 := (by rw [hw3]; exact XE)))
   (try simp only [Exit.inBlock, Exit.then])
   go_wp2
   go_ret
   exact ⟨rfl, Ext.trans hE XE⟩
end K62
namespace K63
open Go Go.RowKit
open KB K1 K2 K3 K5 P1 P2 K62
theorem own_src {F : Nat → Prop} {B : Nat} {w : World} {g n cap : Nat} {l : List SrcM} (h : rdSrc.Own F B 292 w (.slice (some ⟨g, 0, none⟩) n cap) l) {i : Nat} (hi : i < l.length) {A : Option Addr} {c : Nat} {y : SrcM} {m : Nat} (hm : m = y.1.length) (hA : rdRow.Sl (Fv F (.slice (some ⟨g, 0, none⟩) n cap)) w A c y.1) :
   rdSrc.Own F B 292 ((w.setCell ⟨g, i * 2, none⟩ (.slice A m c)).setCell ⟨g, i * 2 + 1, none⟩ (.int .i64 y.2)) (.slice (some ⟨g, 0, none⟩) n cap) (l.set i y) := by
 subst hm
 have h1 := h.setj hi (j := 0) (by decide) (u := .slice A y.1.length c) (y := (y.1, l[i].2)) (fun cs hcs => by
   obtain ⟨A', c', rfl, hs⟩ := hcs
   exact ⟨A, c, rfl, hA⟩)
 have hil : i < (l.set i (y.1, l[i].2)).length := by simpa using hi
 have h2 := h1.setj hil (j := 1) (by decide) (u := .int .i64 y.2) (y := y) (fun cs hcs => by
   obtain ⟨A', c', rfl, hs⟩ := hcs
   rw [List.getElem_set_self] at hs ⊢
   exact ⟨A', c', rfl, hs⟩)
 rw [List.set_set] at h2
 exact h2
theorem swapC (F : Nat → Prop) (qg lg cap : Nat) (Ax : Option Addr) (cx : Nat) (s : Sch) (l : List SrcM) (w : World) (h : HeapAt F w qg lg cap Ax cx s l) (i k : Nat) (hi : i < l.length) (hk : k < l.length) :
   Calls Tryz.prog 439 #[BP qg, .int .i64 i, .int .i64 k] w fun e w' => e = .returned (.tuple #[]) ∧ HeapAt F w' qg lg cap Ax cx s (sw ([], 0) l i k) ∧ Keep (fun j => j = lg) w w' := by
 obtain ⟨cs1, ⟨A1, c1, rfl, a2⟩, ha, hfr⟩ := h.own.cellj hi
 obtain ⟨cs2, ⟨A2, c2, rfl, b2⟩, hb, _⟩ := h.own.cellj hk
 have a0 := ha 0 _ rfl
 have a1 := ha 1 _ rfl
 have b0 := hb 0 _ rfl
 have b1 := hb 1 _ rfl
 rw [show i * rdSrc.sz + 0 = i * 2 from rfl] at a0
 rw [show i * rdSrc.sz + 1 = i * 2 + 1 from rfl] at a1
 rw [show k * rdSrc.sz + 0 = k * 2 from rfl] at b0
 rw [show k * rdSrc.sz + 1 = k * 2 + 1 from rfl] at b1
 have u0 := hfr (i * 2)
 have u1 := hfr (i * 2 + 1)
 have u2 := hfr (k * 2)
 have u3 := hfr (k * 2 + 1)
 have e1 : l.getD i ([], 0) = l[i] := by simp [List.getD_eq_getElem?_getD, hi]
 have e2 : l.getD k ([], 0) = l[k] := by simp [List.getD_eq_getElem?_getD, hk]
 have hO1 := own_src h.own hi (y := l[k]) rfl b2
 have hkl : k < (l.set i l[k]).length := by simpa using hk
 have K1 := kS1 w lg (i * 2) (.slice A2 l[k].1.length c2)
 have K2 := kS1 (w.setCell ⟨lg, i * 2, none⟩ (.slice A2 l[k].1.length c2)) lg (i * 2 + 1) (.int .i64 l[k].2)
 have hO2 := own_src hO1 hkl (y := l[i]) rfl (a2.keep ((K1.trans K2).mono (fun j _ q => .inr (by rw [q]; rfl))))
 obtain ⟨cs3, ⟨A3, c3, rfl, _⟩, hc3, hf3⟩ := hO1.cellj hkl
 have q0 := hc3 0 _ rfl
 have q1 := hc3 1 _ rfl
 rw [show k * rdSrc.sz + 0 = k * 2 from rfl] at q0
 rw [show k * rdSrc.sz + 1 = k * 2 + 1 from rfl] at q1
 have t0 := hf3 (k * 2)
 have t1 := hf3 (k * 2 + 1)
 clear hc3 hf3
 generalize (l.set i l[k])[k] = z at q0 q1
 generalize hw1 : (w.setCell ⟨lg, i * 2, none⟩ (.slice A2 l[k].1.length c2)).setCell ⟨lg, i * 2 + 1, none⟩ (.int .i64 l[k].2) = w1 at *
 have K3 := kS1 w1 lg (k * 2) (.slice A1 l[i].1.length c1)
 have K4 := kS1 (w1.setCell ⟨lg, k * 2, none⟩ (.slice A1 l[i].1.length c1)) lg (k * 2 + 1) (.int .i64 l[i].2)
 have KK := ((K1.trans K2).trans K3).trans K4
 have hfin : HeapAt F ((w1.setCell ⟨lg, k * 2, none⟩ (.slice A1 l[i].1.length c1)).setCell ⟨lg, k * 2 + 1, none⟩ (.int .i64 l[i].2)) qg lg cap Ax cx s (sw ([], 0) l i k) := by
   rw [sw, e1, e2]
   refine ⟨?_, ?_, h.ne, by rw [List.length_set, List.length_set]; exact h.cp, Rd.Sl.keep h.sch (KK.mono (fun _ _ q => .inr q))⟩
   · have := KK.blk h.ne h.blk
     rw [List.length_set, List.length_set]; exact this
   · rw [List.length_set, List.length_set]; exact hO2
 have d0 : (0 : Int) ≤ i := by omega
 have d1 : (i : Int) < l.length := by omega
 have d2 : (0 : Int) ≤ k := by omega
 have d3 : (k : Int) < l.length := by omega
 have p4 := bC h.blk 4
 have hne := h.ne
 have hne' : ¬ lg = qg := fun e => hne e.symm
 have HF := As.mk hfin
 have HK := As.mk KK
 clear hfin KK K1 K2 K3 K4 hO1 hO2 h a2 b2 ha hb hfr e1 e2
 subst hw1
 generalize l[i] = x at *
 generalize l[k] = y at *
 go_enter Tryz.func439, Tryz.ntmps439
 go_wp2_with (fail)
 go_region
 (try simp only [Exit.inBlock, Exit.then])
 go_wp2
 go_returns
 exact ⟨rfl, HF.out.ext ((Ext.refl _).drew), HK.out.post ((Ext.refl _).drew)⟩
theorem heap_pre {F : Nat → Prop} {w : World} {qg lg cap : Nat} {Ax : Option Addr} {cx : Nat} {s : Sch} {l : List SrcM} (h : HeapAt F w qg lg cap Ax cx s l) (n : Nat) (hn : n ≤ l.length) : HeapAt F (w.setCell ⟨qg, 4, none⟩ (.slice (some ⟨lg, 0, none⟩) n cap)) qg lg cap Ax cx s (l.take n) := by
 have hl : (l.take n).length = n := by rw [List.length_take]; omega
 have K := kS1 w qg 4 (.slice (some ⟨lg, 0, none⟩) n cap)
 refine ⟨?_, ?_, h.ne, by rw [hl]; have := h.cp; omega, Rd.Sl.keep h.sch (K.mono (fun _ _ q => .inl (.inr q)))⟩
 · rw [hl]; exact bS h.blk 4 _
 · rw [hl]
   exact (h.own.take hn).keep2 (K.mono (fun _ _ q => .inl (.inr q))) (fun g hg => by cases hg; exact K.block _ (h.own.ge lg rfl).2 (fun e => h.ne e.symm))
theorem popC (F : Nat → Prop) (qg lg cap : Nat) (Ax : Option Addr) (cx : Nat) (s : Sch) (l : List SrcM) (w : World) (h : HeapAt F w qg lg cap Ax cx s l) (n : Nat) (hn : l.length = n + 1) (hn1 : n ≤ 1000) :
   Calls Tryz.prog 438 #[BP qg] w fun e w' => (∃ v, e = .returned v) ∧ HeapAt F w' qg lg cap Ax cx s (l.take n) ∧ Keep (fun j => j = qg) w w' := by
 obtain ⟨A1, c1, a0, a1, a2⟩ := h.src (i := n) (by omega)
 have p4 := bC h.blk 4
 have pf4 := bF h.blk 4
 have hq : qg < w.heap.size := blk_lt h.blk
 have hlg : lg < w.heap.size := (h.own.ge lg rfl).2
 have hE := (Ext.refl (w.setCell ⟨qg, 4, none⟩ (.slice (some ⟨lg, 0, none⟩) n cap))).alloc (.cells #[.slice A1 l[n].1.length c1, .int .i64 l[n].2] 292)
 have hfin := (heap_pre h n (by omega)).ext hE
 have hK := (kS1 w qg 4 (.slice (some ⟨lg, 0, none⟩) n cap)).post hE
 have e1 : ((n + 1 : Nat) : Int) - 1 = n := by omega
 have hcut : ∀ kh W, (Instr.slice 288 (.slice (some ⟨lg, 0, none⟩) (n + 1) cap) none (some (.int kh n)) none).run Tryz.prog W = .ok (.slice (some ⟨lg, 0, none⟩) n cap) W := fun kh W => own_pre (sz := 2) elSrc lg (n + 1) cap n (by omega) (hn ▸ h.cp) kh W
 have d0 : (0 : Int) ≤ n := by omega
 have d1 : (n : Int) < l.length := by omega
 have HF := As.mk hfin
 have HK := As.mk hK
 have hw : IntKind.i64.wrap ((l.length : Int) - 1) = (n : Int) := by rw [IntKind.wrap_i64]; omega
 clear hfin hK hE h
 generalize l[n] = x at *
 have HN := As.mk hn
 rw [hn] at p4 d1 hw
 clear hn
 go_enter Tryz.func438, Tryz.ntmps438
 go_wp2_with (fail)
 go_ret
 exact ⟨⟨_, rfl⟩, HF.out, HK.out⟩
end K63
namespace K64
open Go Go.RowKit
open KB K1 K2 K3 K5 P1 P2 K62 K63
abbrev IQ (qg : Nat) : Value := .iface 287 (BP qg)
def OkTo (s : Sch) (n : Nat) (l : List SrcM) : Prop := ∀ m, m < n → SrcOk s (l.getD m ([], 0))
theorem OkTo.at_ {s : Sch} {n : Nat} {l : List SrcM} (h : OkTo s n l) {m : Nat} (hm : m < n) (hl : m < l.length) : SrcOk s l[m] := by
 have := h m hm
 rwa [show l.getD m ([], 0) = l[m] from by simp [List.getD_eq_getElem?_getD, hl]] at this
theorem OkTo.sw {s : Sch} {n : Nat} {l : List SrcM} (h : OkTo s n l) {i j : Nat} (hi : i < n) (hj : j < n) (hn : n ≤ l.length) : OkTo s n (sw ([], 0) l i j) := by
 intro m hm
 rw [sw_get _ _ _ _ _ (by omega) (by omega)]
 split
 · exact h i hi
 · split
   · exact h j hj
   · exact h m hm
theorem lessI (F : Nat → Prop) (qg lg cap : Nat) (Ax : Option Addr) (cx : Nat) (s : Sch) (hs : s.Ok) (l : List SrcM) (w : World) (h : HeapAt F w qg lg cap Ax cx s l) (i k : Nat) (I K : Int) (hI : I = i) (hK : K = k) (hi : i < l.length) (hk : k < l.length) (oi : SrcOk s l[i]) (ok : SrcOk s l[k]) :
   Calls Tryz.prog 437 #[BP qg, .int .i64 I, .int .i64 K] w fun e w' => e = .returned (.bool (ltS (cmpS s) (l.getD i ([], 0)) (l.getD k ([], 0)))) ∧ Ext w w' := by
 subst hI hK; exact lessC F qg lg cap Ax cx s hs l w h i k hi hk oi ok
theorem swapI (F : Nat → Prop) (qg lg cap : Nat) (Ax : Option Addr) (cx : Nat) (s : Sch) (l : List SrcM) (w : World) (h : HeapAt F w qg lg cap Ax cx s l) (i k : Nat) (I K : Int) (hI : I = i) (hK : K = k) (hi : i < l.length) (hk : k < l.length) :
   Calls Tryz.prog 439 #[BP qg, .int .i64 I, .int .i64 K] w fun e w' => e = .returned (.tuple #[]) ∧ HeapAt F w' qg lg cap Ax cx s (sw ([], 0) l i k) ∧ Keep (fun j => j = lg) w w' := by
 subst hI hK; exact swapC F qg lg cap Ax cx s l w h i k hi hk
theorem downC (F : Nat → Prop) (qg lg cap : Nat) (Ax : Option Addr) (cx : Nat) (s : Sch) (hs : s.Ok) (l : List SrcM) (w : World) (h : HeapAt F w qg lg cap Ax cx s l) (i n : Nat) (hn : n ≤ l.length) (hn1 : n ≤ 1000) (hi : i < n ∨ n = 0) (hi1 : i ≤ 1000) (hok : OkTo s n l) :
   Calls Tryz.prog 292 #[IQ qg, .int .i64 i, .int .i64 n] w fun e w' => (∃ b : Bool, e = .returned (.bool b)) ∧ HeapAt F w' qg lg cap Ax cx s (downF (ltS (cmpS s)) ([], 0) n (n + 1) i l) ∧ Keep (fun j => j = lg) w w' := by
 go_enter Tryz.func292, Tryz.ntmps292
 go_wp2_with (fail)
 go_loopw [7, 8, 9, 10] (fun v _ _ _ wr => ∃ ii f l', v = .int .i64 (ii : Nat) ∧ ii ≤ 2000 ∧ (ii < n ∨ n = 0) ∧ n ≤ ii + f ∧ l'.length = l.length ∧ OkTo s n l' ∧ HeapAt F wr qg lg cap Ax cx s l' ∧ downF (ltS (cmpS s)) ([], 0) n (n + 1) i l = downF (ltS (cmpS s)) ([], 0) n f ii l' ∧ Keep (fun j => j = lg) w wr) (fun v _ _ _ _ => n - (intOf v).toNat)
 case atStart => exact ⟨i, n + 1, l, rfl, by omega, hi, by omega, rfl, hok, h, rfl, Keep.refl _ _⟩
 case round =>
   obtain ⟨ii, f, l', rfl, h2, h3, h4, h5, h6, h7, h8, h9⟩ := hrel
   have HD := As.mk h8
   clear h8
   by_cases hlt : 2 * ii + 1 < n
   · obtain ⟨f, rfl⟩ : ∃ f', f = f' + 1 := ⟨f - 1, by omega⟩
     have d1 : decide ((n : Int) ≤ 2 * (ii : Int) + 1) = false := decide_eq_false (by omega)
     have d2 : decide (2 * (ii : Int) + 1 < 0) = false := decide_eq_false (by omega)
     have w1 : IntKind.i64.wrap (2 * (ii : Int)) = 2 * (ii : Int) := by rw [IntKind.wrap_i64]; omega
     have w2 : IntKind.i64.wrap (2 * (ii : Int) + 1) = 2 * (ii : Int) + 1 := by rw [IntKind.wrap_i64]; omega
     have w3 : IntKind.i64.wrap (2 * (ii : Int) + 1 + 1) = 2 * (ii : Int) + 1 + 1 := by rw [IntKind.wrap_i64]; omega
     by_cases h22 : 2 * ii + 2 < n
     · have d3 : decide (2 * (ii : Int) + 1 + 1 < n) = true := decide_eq_true (by omega)
       go_wp2_with (fail)
       refine (lessI F qg lg cap Ax cx s hs l' _ h7 (2 * ii + 2) (2 * ii + 1) _ _ (by omega) (by omega) (by omega) (by omega) (h6.at_ (by omega) (by omega)) (h6.at_ (by omega) (by omega))).mono ?_; rintro e w4 ⟨rfl, hE4⟩
       generalize hb : ltS (cmpS s) (l'.getD (2 * ii + 2) ([], 0)) (l'.getD (2 * ii + 1) ([], 0)) = b at *
       have HB := As.mk hb
       clear hb
       have h7b := HeapAt.ext h7 hE4
       have k7b := Keep.post h9 hE4
       cases b
       · go_wp2_with (fail)
         refine (lessI F qg lg cap Ax cx s hs l' _ h7b (2 * ii + 1) ii _ _ (by omega) (by omega) (by omega) (by omega) (h6.at_ (by omega) (by omega)) (h6.at_ (by omega) (by omega))).mono ?_; rintro e w5 ⟨rfl, hE5⟩
         have hD2 : downF (ltS (cmpS s)) ([], 0) n (f + 1) ii l' = if ltS (cmpS s) (l'.getD (2 * ii + 1) ([], 0)) (l'.getD ii ([], 0)) = true then downF (ltS (cmpS s)) ([], 0) n f (2 * ii + 1) (sw ([], 0) l' ii (2 * ii + 1)) else l' := by
           rw [downF, if_pos hlt]
           simp only [HB.out, Bool.false_eq_true, and_false, if_false]
         have HD2 := As.mk hD2
         clear hD2
         generalize ltS (cmpS s) (l'.getD (2 * ii + 1) ([], 0)) (l'.getD ii ([], 0)) = b at *
         cases b
         · go_wp2
           go_ret
           refine ⟨⟨_, rfl⟩, ?_, Keep.post k7b hE5⟩
           rw [HD.out, HD2.out]
           exact HeapAt.ext h7b hE5
         · go_wp2_with (fail)
           refine (swapI F qg lg cap Ax cx s l' _ (HeapAt.ext h7b hE5) ii (2 * ii + 1) _ _ (by omega) (by omega) (by omega) (by omega)).mono ?_; rintro e w6 ⟨rfl, h10, k10⟩
           go_wp2_with (fail)
           go_roundw
           case rel =>
             refine ⟨2 * ii + 1, f, _, (by congr 1 <;> omega), by omega, .inl (by omega), by omega, ?_, h6.sw (by omega) (by omega) (by omega), h10, ?_, (Keep.post k7b hE5).trans k10⟩
             · rw [sw_length]; exact h5
             · rw [HD.out, HD2.out]; rfl
           case measure => simp [intOf]; omega
       · go_wp2_with (fail)
         refine (lessI F qg lg cap Ax cx s hs l' _ h7b (2 * ii + 2) ii _ _ (by omega) (by omega) (by omega) (by omega) (h6.at_ (by omega) (by omega)) (h6.at_ (by omega) (by omega))).mono ?_; rintro e w5 ⟨rfl, hE5⟩
         have hD2 : downF (ltS (cmpS s)) ([], 0) n (f + 1) ii l' = if ltS (cmpS s) (l'.getD (2 * ii + 2) ([], 0)) (l'.getD ii ([], 0)) = true then downF (ltS (cmpS s)) ([], 0) n f (2 * ii + 2) (sw ([], 0) l' ii (2 * ii + 2)) else l' := by
           rw [downF, if_pos hlt]
           simp only [HB.out, h22, and_self, if_true]
         have HD2 := As.mk hD2
         clear hD2
         generalize ltS (cmpS s) (l'.getD (2 * ii + 2) ([], 0)) (l'.getD ii ([], 0)) = b at *
         cases b
         · go_wp2
           go_ret
           refine ⟨⟨_, rfl⟩, ?_, Keep.post k7b hE5⟩
           rw [HD.out, HD2.out]
           exact HeapAt.ext h7b hE5
         · go_wp2_with (fail)
           refine (swapI F qg lg cap Ax cx s l' _ (HeapAt.ext h7b hE5) ii (2 * ii + 2) _ _ (by omega) (by omega) (by omega) (by omega)).mono ?_; rintro e w6 ⟨rfl, h10, k10⟩
           go_wp2_with (fail)
           go_roundw
           case rel =>
             refine ⟨2 * ii + 2, f, _, (by congr 1 <;> omega), by omega, .inl (by omega), by omega, ?_, h6.sw (by omega) (by omega) (by omega), h10, ?_, (Keep.post k7b hE5).trans k10⟩
             · rw [sw_length]; exact h5
             · rw [HD.out, HD2.out]; rfl
           case measure => simp [intOf]; omega
     · have d3 : decide (2 * (ii : Int) + 1 + 1 < n) = false := decide_eq_false (by omega)
       go_wp2_with (fail)
       refine (lessI F qg lg cap Ax cx s hs l' _ h7 (2 * ii + 1) ii _ _ (by omega) (by omega) (by omega) (by omega) (h6.at_ (by omega) (by omega)) (h6.at_ (by omega) (by omega))).mono ?_; rintro e w5 ⟨rfl, hE5⟩
       have hD2 : downF (ltS (cmpS s)) ([], 0) n (f + 1) ii l' = if ltS (cmpS s) (l'.getD (2 * ii + 1) ([], 0)) (l'.getD ii ([], 0)) = true then downF (ltS (cmpS s)) ([], 0) n f (2 * ii + 1) (sw ([], 0) l' ii (2 * ii + 1)) else l' := by
         rw [downF, if_pos hlt]
         simp only [h22, false_and, if_false]
       have HD2 := As.mk hD2
       clear hD2
       generalize ltS (cmpS s) (l'.getD (2 * ii + 1) ([], 0)) (l'.getD ii ([], 0)) = b at *
       cases b
       · go_wp2
         go_ret
         refine ⟨⟨_, rfl⟩, ?_, Keep.post h9 hE5⟩
         rw [HD.out, HD2.out]
         exact HeapAt.ext h7 hE5
       · go_wp2_with (fail)
         refine (swapI F qg lg cap Ax cx s l' _ (HeapAt.ext h7 hE5) ii (2 * ii + 1) _ _ (by omega) (by omega) (by omega) (by omega)).mono ?_; rintro e w6 ⟨rfl, h10, k10⟩
         go_wp2_with (fail)
         go_roundw
         case rel =>
           refine ⟨2 * ii + 1, f, _, (by congr 1 <;> omega), by omega, .inl (by omega), by omega, ?_, h6.sw (by omega) (by omega) (by omega), h10, ?_, (Keep.post h9 hE5).trans k10⟩
           · rw [sw_length]; exact h5
           · rw [HD.out, HD2.out]; rfl
         case measure => simp [intOf]; omega
   · have d1 : decide ((n : Int) ≤ 2 * (ii : Int) + 1) = true := decide_eq_true (by omega)
     have w1 : IntKind.i64.wrap (2 * (ii : Int)) = 2 * (ii : Int) := by rw [IntKind.wrap_i64]; omega
     have w2 : IntKind.i64.wrap (2 * (ii : Int) + 1) = 2 * (ii : Int) + 1 := by rw [IntKind.wrap_i64]; omega
     go_wp2
     go_ret
     refine ⟨⟨_, rfl⟩, ?_, h9⟩
     rw [HD.out]
     cases f with
     | zero => exact h7
     | succ f => rw [downF, if_neg hlt]; exact h7
theorem okTo_down {s : Sch} {n : Nat} : ∀ f i (l : List SrcM), OkTo s n l → n ≤ l.length → (i < n ∨ n = 0) → OkTo s n (downF (ltS (cmpS s)) ([], 0) n f i l) := by
 intro f
 induction f with
 | zero => intro i l h _ _; exact h
 | succ f ih =>
   intro i l h hn hi
   rw [downF]
   split
   · rename_i h1
     have hj : (if 2 * i + 2 < n ∧ ltS (cmpS s) (l.getD (2 * i + 2) ([], 0)) (l.getD (2 * i + 1) ([], 0)) = true then 2 * i + 2 else 2 * i + 1) < n := by split <;> omega
     simp only
     generalize (if 2 * i + 2 < n ∧ ltS (cmpS s) (l.getD (2 * i + 2) ([], 0)) (l.getD (2 * i + 1) ([], 0)) = true then 2 * i + 2 else 2 * i + 1) = j at *
     split
     · exact ih _ _ (h.sw (by omega) hj hn) (by rw [sw_length]; exact hn) (.inl hj)
     · exact h
   · exact h
theorem initNil (qg : Nat) (Ax : Option Addr) (cx : Nat) (s : Sch) (A : Option Addr) (cap : Nat) (w : World) (h : w.heap[qg]? = some (.cells #[.slice Ax s.types.length cx, .int .i64 s.keys, .int .i64 s.mode, .int .i64 s.grain, .slice A 0 cap] 290 (0, 0))) :
   Calls Tryz.prog 211 #[IQ qg] w fun e w' => e = .returned (.tuple #[]) ∧ w' = w := by
 go_enter Tryz.func211, Tryz.ntmps211
 go_wp2_with (fail)
 refine (lenC qg Ax cx s (.slice A 0 cap) A 0 cap _ h).mono ?_; rintro e w1 ⟨rfl, hw⟩; rw [hw]; clear hw
 go_wp2_with (fail)
 refine wp_loop_rounds 1 ?_
 rw [rounds_succ]
 go_wp2
 go_returns
 exact ⟨rfl, rfl⟩
theorem initC (F : Nat → Prop) (qg lg cap : Nat) (Ax : Option Addr) (cx : Nat) (s : Sch) (hs : s.Ok) (l : List SrcM) (w : World) (h : HeapAt F w qg lg cap Ax cx s l) (hn1 : l.length ≤ 1000) (hok : OkTo s l.length l) :
   Calls Tryz.prog 211 #[IQ qg] w fun e w' => e = .returned (.tuple #[]) ∧ HeapAt F w' qg lg cap Ax cx s (initF (ltS (cmpS s)) ([], 0) l.length (l.length / 2) l) ∧ Keep (fun j => j = lg) w w' := by
 go_enter Tryz.func211, Tryz.ntmps211
 go_wp2_with (fail)
 refine (lenC qg Ax cx s (.slice (some ⟨lg, 0, none⟩) l.length cap) _ l.length cap _ h.blk).mono ?_; rintro e w1 ⟨rfl, hw⟩; rw [hw]; clear hw
 have w0 : IntKind.i64.wrap (((l.length : Int) / 2) - 1) = ((l.length : Int) / 2) - 1 := by rw [IntKind.wrap_i64]; omega
 go_wp2_with (fail)
 go_loopw [3] (fun v wr => ∃ (k : Nat) (l' : List SrcM), v = .int .i64 ((k : Int) - 1) ∧ k ≤ l.length / 2 ∧ l'.length = l.length ∧ OkTo s l.length l' ∧ HeapAt F wr qg lg cap Ax cx s l' ∧ initF (ltS (cmpS s)) ([], 0) l.length (l.length / 2) l = initF (ltS (cmpS s)) ([], 0) l.length k l' ∧ Keep (fun j => j = lg) w wr) (fun v _ => (intOf v + 1).toNat)
 case atStart => exact ⟨l.length / 2, l, (by congr 1 <;> omega), Nat.le_refl _, rfl, hok, h, rfl, Keep.refl _ _⟩
 case round =>
   obtain ⟨k, l', rfl, h2, h3, h4, h5, h6, h7⟩ := hrel
   have HD := As.mk h6
   clear h6
   cases k with
   | zero =>
     go_wp2
     go_returns
     exact ⟨rfl, by rw [HD.out]; exact h5, h7⟩
   | succ k =>
     have d1 : decide ((0 : Int) ≤ ((k + 1 : Nat) : Int) - 1) = true := decide_eq_true (by omega)
     have w1 : IntKind.i64.wrap (((k + 1 : Nat) : Int) - 1 - 1) = (k : Int) - 1 := by rw [IntKind.wrap_i64]; omega
     go_wp2_with (fail)
     refine (downC F qg lg cap Ax cx s hs l' _ h5 k l.length (by omega) hn1 (by omega) (by omega) h4).mono ?_; rintro e w2 ⟨⟨b, rfl⟩, h8, k8⟩
     go_wp2_with (fail)
     go_roundw
     case rel => exact ⟨k, _, (by congr 1 <;> omega), by omega, by rw [downF_length]; exact h3, okTo_down _ _ _ h4 (by omega) (by omega), h8, by rw [HD.out]; rfl, h7.trans k8⟩
     case measure => simp [intOf]
theorem up0 (v : Value) (w : World) : Calls Tryz.prog 293 #[v, .int .i64 0] w fun e w' => e = .returned (.tuple #[]) ∧ w' = w := by
 have w0 : IntKind.i64.wrap (((0 : Int) - 1).tdiv 2) = 0 := by decide
 go_enter Tryz.func293, Tryz.ntmps293
 go_wp2_with (fail)
 refine wp_loop_rounds 1 ?_
 rw [rounds_succ]
 go_wp2
 go_returns
 exact ⟨rfl, rfl⟩
theorem fixC (F : Nat → Prop) (qg lg cap : Nat) (Ax : Option Addr) (cx : Nat) (s : Sch) (hs : s.Ok) (l : List SrcM) (w : World) (h : HeapAt F w qg lg cap Ax cx s l) (hn1 : l.length ≤ 1000) (hn0 : 0 < l.length) (hok : OkTo s l.length l) :
   Calls Tryz.prog 214 #[IQ qg, .int .i64 0] w fun e w' => e = .returned (.tuple #[]) ∧ HeapAt F w' qg lg cap Ax cx s (fixF (cmpS s) l) ∧ Keep (fun j => j = lg) w w' := by
 go_enter Tryz.func214, Tryz.ntmps214
 go_wp2_with (fail)
 refine (lenC qg Ax cx s (.slice (some ⟨lg, 0, none⟩) l.length cap) _ l.length cap _ h.blk).mono ?_; rintro e w1 ⟨rfl, hw⟩; rw [hw]; clear hw
 go_wp2_with (fail)
 refine (downC F qg lg cap Ax cx s hs l _ h 0 l.length (Nat.le_refl _) hn1 (.inl hn0) (by omega) hok).mono ?_; rintro e w2 ⟨⟨b, rfl⟩, h8, k8⟩
 cases b
 · go_wp2_with (fail)
   refine (up0 _ _).mono ?_; rintro e w1 ⟨rfl, hw⟩; rw [hw]; clear hw
   go_wp2
   go_returns
   exact ⟨rfl, h8, k8⟩
 · go_wp2
   go_returns
   exact ⟨rfl, h8, k8⟩
theorem hpopC (F : Nat → Prop) (qg lg cap : Nat) (Ax : Option Addr) (cx : Nat) (s : Sch) (hs : s.Ok) (l : List SrcM) (w : World) (h : HeapAt F w qg lg cap Ax cx s l) (n : Nat) (hn : l.length = n + 1) (hn1 : n + 1 ≤ 1000) (hok : ∀ m, 0 < m → m < l.length → SrcOk s (l.getD m ([], 0))) :
   Calls Tryz.prog 213 #[IQ qg] w fun e w' => (∃ v, e = .returned v) ∧ HeapAt F w' qg lg cap Ax cx s (popF (cmpS s) l) ∧ Keep (fun j => j = lg ∨ j = qg) w w' := by
 have w0 : IntKind.i64.wrap (((l.length : Nat) : Int) - 1) = (n : Int) := by rw [IntKind.wrap_i64]; omega
 have HN := As.mk hn
 have hok2 : OkTo s n (sw ([], 0) l 0 n) := by
   intro m hm
   rw [sw_get _ _ _ _ _ (by omega) (by omega)]
   split
   · omega
   · split
     · exact hok n (by omega) (by omega)
     · exact hok m (by omega) (by omega)
 have hb : popF (cmpS s) l = (downF (ltS (cmpS s)) ([], 0) n (n + 1) 0 (sw ([], 0) l 0 n)).take n := by
   rw [popF, hn]; rfl
 rw [hb]
 clear hn hb
 go_enter Tryz.func213, Tryz.ntmps213
 go_wp2_with (fail)
 refine (lenC qg Ax cx s (.slice (some ⟨lg, 0, none⟩) l.length cap) _ l.length cap _ h.blk).mono ?_; rintro e w1 ⟨rfl, hw⟩; rw [hw]; clear hw
 go_wp2_with (fail)
 refine (swapI F qg lg cap Ax cx s l _ h 0 n _ _ rfl rfl (by have := HN.out; omega) (by have := HN.out; omega)).mono ?_; rintro e w2 ⟨rfl, h2, k2⟩
 go_wp2_with (fail)
 refine (downC F qg lg cap Ax cx s hs (sw ([], 0) l 0 n) _ h2 0 n (by rw [sw_length]; have := HN.out; omega) (by omega) (by omega) (by omega) hok2).mono ?_; rintro e w3 ⟨⟨b, rfl⟩, h3, k3⟩
 go_wp2_with (fail)
 refine (popC F qg lg cap Ax cx s _ _ h3 n (by rw [downF_length, sw_length]; exact HN.out) (by omega)).mono ?_; rintro e w4 ⟨⟨v, rfl⟩, h4, k4⟩
 go_wp2
 go_returns
 exact ⟨⟨_, rfl⟩, h4, ((k2.trans k3).mono (fun _ _ q => .inl q)).trans (k4.mono (fun _ _ q => .inr q))⟩
end K64
end Go.Proofs.YtbjeejimedhniaaGreatDoor
