/- Contracts of the program's functions, as the walks of the law use them. -/
import Derived.Test.YtbjeejimedhniaaGreatDoorC28
import Derived.Test.YtbjeejimedhniaaGreatDoorC5
import Derived.Deep.MidRow
import Derived.Great.BuildSlice
import Derived.Great.Walk
import Derived.BigQuiet
namespace Go.Proofs.YtbjeejimedhniaaGreatDoor
namespace K111
open Go Go.RowKit
open KB KB2 P2 K1 K2 K3 K17 P5 P6 P8 P9 K25 K35 K38 K42 K54 K55 K56 K57 K58 K31 K65 K70 K71 K72 K75 K77 K81 K87 K88 K89 K91 K92 K93 K94 K95 K97 K5 P3 P4 P7 P10 P11 K67 K68 K79 K85 K86 K104 K105 K106 K107 K109 K110 K108 Bits
set_option linter.unusedVariables false
set_option linter.unusedSimpArgs false
set_option maxHeartbeats 4000000
set_option maxRecDepth 100000
/-- Two numbers. -/
def rdPr : Rd (Int × Int) where
  sz := 2
  C := fun _ _ cs x => cs = [.int .i64 x.1, .int .i64 x.2]
  len := by rintro _ _ _ _ rfl; rfl
  keep := fun _ h => h
  narrow := fun _ h => h
  one := by rintro _ _ _ _ rfl u hu; simp at hu; rcases hu with rfl | rfl <;> rfl
theorem pr_get {F : Nat → Prop} {w : World} {A : Option Addr} {c : Nat} {l : List (Int × Int)} (h : rdPr.Sl F w A c l) {k : Nat} (hk : k < l.length) : ∃ b o, A = some ⟨b, o, none⟩ ∧ w.cell? ⟨b, o + k * 2, none⟩ = some (.int .i64 l[k].1) ∧ w.cell? ⟨b, o + k * 2 + 1, none⟩ = some (.int .i64 l[k].2) := by
  obtain ⟨b, o, e, _, cs, hC, hat⟩ := h.at_ k l[k] (List.getElem?_eq_getElem hk)
  obtain rfl : cs = [.int .i64 l[k].1, .int .i64 l[k].2] := hC
  exact ⟨b, o, e, hat 0 _ rfl, hat 1 _ rfl⟩
abbrev ky (x : Int × Int) : Nat := (x.1 % 8).toNat
abbrev rowP (x : Int × Int) : Row := [V (x.1 % 8), V x.2]
def lastOf (h : List (Int × Int)) (k : Nat) : Option (Int × Int) := (h.filter fun x => decide (ky x = k)).getLast?
theorem and7 (x : Int) (h0 : -9223372036854775808 ≤ x) (h1 : x < 9223372036854775808) : Go.bits .and .i64 x 7 = x % 8 := by
  have e : Go.bits .and .i64 x 7 = IntKind.i64.wrap ((BitVec.ofInt 64 x &&& BitVec.ofInt 64 7).toNat : Int) := rfl
  rw [e, BitVec.toNat_and]
  have e7 : (BitVec.ofInt 64 7).toNat = 2 ^ 3 - 1 := by decide
  rw [e7, Nat.and_two_pow_sub_one_eq_mod, BitVec.toNat_ofInt, wrap_i64_eq, wrap64_id] <;> omega
/-- What is wanted: of each key the last value. -/
def WantAt (w : World) (tw : Nat) (h : List (Int × Int)) : Prop :=
  w.there tw 0 24 ∧ ∀ k, k < 8 → w.cell? ⟨tw, k * 3, none⟩ = some (.bool (lastOf h k).isSome) ∧ w.cell? ⟨tw, k * 3 + 1, none⟩ = some (.int .i64 (((lastOf h k).map (·.2)).getD 0)) ∧ w.cell? ⟨tw, k * 3 + 2, none⟩ = some (.string emp)
theorem WantAt.ext {w w' : World} {tw : Nat} {h : List (Int × Int)} (H : WantAt w tw h) (k : Ext w w') : WantAt w' tw h := by
  refine ⟨fun j hj => ?_, fun i hi => ⟨k.cell (H.2 i hi).1, k.cell (H.2 i hi).2.1, k.cell (H.2 i hi).2.2⟩⟩
  obtain ⟨h1, h2⟩ := H.1 j hj
  obtain ⟨u, hu⟩ := Option.isSome_iff_exists.1 h1
  exact ⟨by rw [k.cell hu]; rfl, k.froz (World.block_lt_of_cell? w _ hu) h2⟩
theorem WantAt.keep {G : Nat → Prop} {w w' : World} {tw : Nat} {h : List (Int × Int)} (H : WantAt w tw h) (k : Keep G w w') (hG : ¬ G tw) : WantAt w' tw h := by
  refine ⟨fun j hj => ?_, fun i hi => ⟨k.cell hG (H.2 i hi).1, k.cell hG (H.2 i hi).2.1, k.cell hG (H.2 i hi).2.2⟩⟩
  obtain ⟨h1, h2⟩ := H.1 j hj
  obtain ⟨u, hu⟩ := Option.isSome_iff_exists.1 h1
  have hb := k.block tw (World.block_lt_of_cell? w _ hu) hG
  refine ⟨by rw [k.cell hG hu]; rfl, ?_⟩
  simp only [World.frozen?] at h2 ⊢
  rw [hb]; exact h2
theorem ext_row {w W : World} (h : Ext w W) {g : Nat} (hg : w.heap.size ≤ g) (cs : Array Value) : Ext w (W.setRow g cs) :=
  ⟨h.os, h.tape, h.output, by rw [setRow_size]; exact h.size, fun k hk => (setRow_other W g k cs (by omega)).trans (h.block hk)⟩
theorem lastOf_nil (k : Nat) : lastOf [] k = none := rfl
theorem lastOf_snoc (h : List (Int × Int)) (x : Int × Int) (k : Nat) : lastOf (h ++ [x]) k = if ky x = k then some x else lastOf h k := by
  unfold lastOf
  rw [List.filter_append]
  by_cases e : ky x = k
  · simp [e]
  · simp [e]
abbrev want0 : Array Value := #[.bool false, .int .i64 0, .string emp, .bool false, .int .i64 0, .string emp, .bool false, .int .i64 0, .string emp, .bool false, .int .i64 0, .string emp, .bool false, .int .i64 0, .string emp, .bool false, .int .i64 0, .string emp, .bool false, .int .i64 0, .string emp, .bool false, .int .i64 0, .string emp]
theorem zeroW (w : World) : (zeroValue 36).run Tryz.prog w = .ok (.agg want0) w := by kernel_rfl
theorem want_new (w : World) (tw : Nat) (h : w.heap.size = tw) : WantAt ((w.alloc (.cells want0 36)).setRow tw want0) tw [] := by
  have hb := blk_new w (.cells want0 36)
  rw [h] at hb
  have hb2 := setRow_heap _ tw want0 want0 _ _ hb
  refine ⟨fun j hj => ?_, fun k hk => ?_⟩
  · rw [Nat.zero_add, blk_cell hb2, blk_froz hb2]
    exact ⟨by rw [Array.getElem?_eq_getElem (by exact hj)]; rfl, rfl⟩
  · rw [blk_cell hb2, blk_cell hb2, blk_cell hb2]
    match k, hk with
    | 0, _ => exact ⟨rfl, rfl, rfl⟩
    | 1, _ => exact ⟨rfl, rfl, rfl⟩
    | 2, _ => exact ⟨rfl, rfl, rfl⟩
    | 3, _ => exact ⟨rfl, rfl, rfl⟩
    | 4, _ => exact ⟨rfl, rfl, rfl⟩
    | 5, _ => exact ⟨rfl, rfl, rfl⟩
    | 6, _ => exact ⟨rfl, rfl, rfl⟩
    | 7, _ => exact ⟨rfl, rfl, rfl⟩
    | k + 8, hk => omega
theorem gs_lt {F : Nat → Prop} {tg dg mg : Nat} {hist : List Row} {n K : Nat} {pv : Value} {W : World} (h : GS F tg dg mg hist n K pv W) (hF : ∀ k, F k → k < W.heap.size) : ∀ k, Fv (SF F tg dg mg) pv k → k < W.heap.size := by
  obtain ⟨St, lg, k, h1, _⟩ := h
  exact fun k q => q.elim (SFlt h1 hF k) (fun q => (h1.parts.ge k q).2)
theorem row2 {F : Nat → Prop} {w : World} {g : Nat} {T : TypeId} {fr : Nat × Nat} {a b : Int} (h : w.heap[g]? = some (.cells #[.int .i64 a, .string emp, .int .i64 b, .string emp] T fr)) (hF : ¬ F g) : rdVal.Sl F w (some ⟨g, 0, none⟩) 2 [V a, V b] := by
  have hc := blk_cell h
  refine ⟨Nat.le_refl _, by simp [maxLen], (fun h => by cases h), fun k x hk => ⟨g, 0, rfl, hF, [.int .i64 x.1, .string x.2], rfl, fun j u hj => ?_⟩⟩
  match k, hk with
  | 0, hk =>
    cases hk
    match j, hj with
    | 0, hj => cases hj; exact hc 0
    | 1, hj => cases hj; exact hc 1
    | j + 2, hj => simp at hj
  | 1, hk =>
    cases hk
    match j, hj with
    | 0, hj => cases hj; exact hc 2
    | 1, hj => cases hj; exact hc 3
    | j + 2, hj => simp at hj
  | k + 2, hk => simp at hk
theorem rowOk1 {a b : Int} (ha : I64 a) (hb : I64 b) : RowOk s1 [V a, V b] := by
  refine ⟨rfl, fun k h1 h2 => ?_⟩
  match k, h1 with
  | 0, _ => exact ⟨ha, .inl ⟨.inl rfl, rfl⟩⟩
  | 1, _ => exact ⟨hb, .inl ⟨.inl rfl, rfl⟩⟩
  | k + 2, h1 => exact absurd h1 (by simp)
theorem want_put {w : World} {tw : Nat} {h : List (Int × Int)} {k : Nat} {x y : Int} (H : WantAt w tw h) (hk : k < 8) (hx : x % 8 = (k : Int)) : WantAt (((w.setCell ⟨tw, k * 3, none⟩ (.bool true)).setCell ⟨tw, k * 3 + 1, none⟩ (.int .i64 y)).setCell ⟨tw, k * 3 + 2, none⟩ (.string emp)) tw (h ++ [(x, y)]) := by
  show WantAt (w.setCells tw (k * 3) [.bool true, .int .i64 y, .string emp]) tw (h ++ [(x, y)])
  have ht : w.there tw (k * 3) 3 := fun j hj => by have := H.1 (k * 3 + j) (by omega); rwa [Nat.zero_add] at this
  have hky : ky (x, y) = k := by show (x % 8).toNat = k; omega
  refine ⟨World.there_setCells H.1 _ _ _, fun i hi => ?_⟩
  rw [lastOf_snoc, hky]
  by_cases e : k = i
  · subst e
    have hs := World.rangeAt_setCells_same w tw (k * 3) [.bool true, .int .i64 y, .string emp] ht
    rw [if_pos rfl]
    exact ⟨hs 0 _ rfl, hs 1 _ rfl, hs 2 _ rfl⟩
  · rw [if_neg e]
    obtain ⟨h1, h2, h3⟩ := H.2 i hi
    refine ⟨?_, ?_, ?_⟩
    · rw [World.cell?_setCells_out tw _ (k * 3) w ⟨tw, i * 3, none⟩ (fun _ _ => by show i * 3 < k * 3 ∨ k * 3 + 3 ≤ i * 3; omega)]; exact h1
    · rw [World.cell?_setCells_out tw _ (k * 3) w ⟨tw, i * 3 + 1, none⟩ (fun _ _ => by show i * 3 + 1 < k * 3 ∨ k * 3 + 3 ≤ i * 3 + 1; omega)]; exact h2
    · rw [World.cell?_setCells_out tw _ (k * 3) w ⟨tw, i * 3 + 2, none⟩ (fun _ _ => by show i * 3 + 2 < k * 3 ∨ k * 3 + 3 ≤ i * 3 + 2; omega)]; exact h3
theorem gs_keep {F G : Nat → Prop} {tg dg mg : Nat} {hist : List Row} {n K : Nat} {pv : Value} {W W' : World} (h : GS F tg dg mg hist n K pv W) (k : Keep G W W') (hG : ∀ i, G i → F i) (hp : ∀ i, pv.ownBlock = some i → ¬ G i) : GS F tg dg mg hist n K pv W' := by
  obtain ⟨St, lg, kk, h1, h2⟩ := h
  exact ⟨St, lg, kk, h1.keep k hG hp, h2⟩
def rowsOf (h : List (Int × Int)) : List Row := (List.range 8).filterMap fun k => (lastOf h k).map rowP
abbrev P1 (r : Row) : Prop := RowOk s1 r ∧ ∃ a b : Int, r = [V a, V b] ∧ 0 ≤ a ∧ a < 8
abbrev kkR (r : Row) : Nat := (r.headD (V 0)).1.toNat
theorem cmp1 (a b a' b' : Int) : cmpS s1 [V a, V b] [V a', V b'] = cmpI a a' := by
  show (if cmpV 1 (V a) (V a') = 0 then _ else cmpV 1 (V a) (V a')) = _
  have e : cmpV 1 (V a) (V a') = cmpI a a' := rfl
  rw [e]
  split
  · rename_i h; rw [h]; rfl
  · rfl
theorem inv_mono {α : Type} {c : α → α → Int} {P Q : α → Prop} {hist : List α} {parts : List (List α)} (h : Inv c P hist parts) (hQ : ∀ r ∈ hist, Q r) (hP : ∀ r, Q r → P r) : Inv c Q hist parts :=
  ⟨h.srt, fun x hx r hr => hQ r (h.sub r (List.mem_flatten.2 ⟨x, hx, hr⟩)), h.ne, fun k hk => h.last k (hP k hk), h.sub⟩
theorem ord_mono {α : Type} {c : α → α → Int} {P Q : α → Prop} (h : Ord c P) (hP : ∀ r, Q r → P r) : Ord c Q :=
  ⟨fun a b ha hb => h.sym a b (hP a ha) (hP b hb), fun a b d ha hb hd => h.trans a b d (hP a ha) (hP b hb) (hP d hd)⟩
theorem told_eq (h : List (Int × Int)) (hI : ∀ x ∈ h, I64 x.1 ∧ I64 x.2) (parts : List (List Row)) (H : Inv (cmpS s1) (RowOk s1) (h.map rowP) parts) : told s1 true parts = rowsOf h := by
  have hP : ∀ r ∈ h.map rowP, P1 r := fun r hr => by
    obtain ⟨x, hx, rfl⟩ := List.mem_map.1 hr
    have h2 := (hI x hx).2
    exact ⟨rowOk1 ⟨by omega, by omega⟩ h2, _, _, rfl, by omega, by omega⟩
  have hall : ∀ r ∈ mergeR (cmpS s1) parts, RowOk s1 r := by
    obtain ⟨m1, m2, m3⟩ := mergeR_ok (cmpS_ord s1) parts (fun x hx => ⟨H.srt x hx, H.all x hx⟩)
    intro r hr
    obtain ⟨x, hx, hr2⟩ := List.mem_flatten.1 (m1.mem_iff.1 hr)
    exact H.all x hx r hr2
  have e0 : told s1 true parts = foldL (cmpS s1) (oneS s1) (mergeR (cmpS s1) parts) := rfl
  rw [e0, fold_eq _ _ hall]
  have H1 := inv_mono H hP (fun r hr => hr.1)
  have := Inv.final (ord_mono (cmpS_ord s1) (fun r (hr : P1 r) => hr.1)) H1 kkR 8 ?_ ?_ (fun a ha => ⟨hP a ha, ?_⟩)
  · rw [show snd = (fun _ b => b) from rfl, this]
    unfold rowsOf
    congr 1
    funext k
    unfold lastOf
    rw [List.filter_map, List.getLast?_map]
    congr 2
  · rintro a b ⟨_, a1, a2, rfl, h1, h2⟩ ⟨_, b1, b2, rfl, h3, h4⟩
    rw [cmp1]
    show cmpI a1 b1 = 0 ↔ a1.toNat = b1.toNat
    unfold cmpI
    split
    · constructor <;> intro e <;> omega
    · split
      · constructor <;> intro e <;> omega
      · constructor <;> intro e <;> omega
  · rintro a b ⟨_, a1, a2, rfl, h1, h2⟩ ⟨_, b1, b2, rfl, h3, h4⟩ e
    rw [cmp1]
    have : a1.toNat < b1.toNat := e
    unfold cmpI
    rw [if_pos (by omega)]; omega
  · obtain ⟨x, hx, rfl⟩ := List.mem_map.1 ha
    show (x.1 % 8).toNat < 8
    omega
theorem finT (F : Nat → Prop) (tg dg mg : Nat) (h : List (Int × Int)) (n K : Nat) (pv : Value) (W : World) (hG : GS F tg dg mg (h.map rowP) n K pv W) (hI : ∀ x ∈ h, I64 x.1 ∧ I64 x.2) (hl : h.length ≤ 30) (hF : ∀ k, F k → k < W.heap.size) :
    Calls Tryz.prog 11 #[PX tg] W fun e w' => ∃ (A' : Option Addr) (c' : Nat), e = .returned (.tuple #[.slice A' (rowsOf h).length c', .bool true]) ∧ rdRow.Sl F w' A' c' (rowsOf h) ∧ Ext W w' := by
  obtain ⟨St, lg, k, hSt, hT, hInv, h4, h5, h6, h7⟩ := hG
  rw [List.length_map] at h4 h5
  have hs := hT.sch
  have e := told_eq h hI St.parts hInv
  have := finalC F tg dg mg pv St (by rw [hs]; exact s1ok) W hSt (by omega) (by omega) (fun x hx => by rw [hs]; exact ⟨hInv.srt x hx, hInv.all x hx⟩) hF
  rw [hs, e] at this
  exact this
def rowsTo (h : List (Int × Int)) (n : Nat) : List Row := (List.range n).filterMap fun k => (lastOf h k).map rowP
theorem rowsTo_none {h : List (Int × Int)} {n : Nat} (e : lastOf h n = none) : rowsTo h (n + 1) = rowsTo h n := by
  unfold rowsTo
  rw [List.range_succ, List.filterMap_append]
  simp [e]
theorem rowsTo_some {h : List (Int × Int)} {n : Nat} {x : Int × Int} (e : lastOf h n = some x) : rowsTo h (n + 1) = rowsTo h n ++ [rowP x] := by
  unfold rowsTo
  rw [List.range_succ, List.filterMap_append]
  simp [e]
theorem rowsTo_pre (h : List (Int × Int)) : ∀ m n, ∃ r, rowsTo h (n + m) = rowsTo h n ++ r
  | 0, n => ⟨[], by simp⟩
  | m + 1, n => by
    obtain ⟨r, hr⟩ := rowsTo_pre h m n
    cases e : lastOf h (n + m) with
    | none => exact ⟨r, by rw [← Nat.add_assoc, rowsTo_none e, hr]⟩
    | some x => exact ⟨r ++ [rowP x], by rw [← Nat.add_assoc, rowsTo_some e, hr, List.append_assoc]⟩
theorem rows_at {h : List (Int × Int)} {n : Nat} (hn : n < 8) {x : Int × Int} (e : lastOf h n = some x) : (rowsOf h)[(rowsTo h n).length]? = some (rowP x) := by
  obtain ⟨r, hr⟩ := rowsTo_pre h (7 - n) (n + 1)
  have e8 : rowsOf h = rowsTo h 8 := rfl
  rw [show n + 1 + (7 - n) = 8 by omega, rowsTo_some e, List.append_assoc] at hr
  rw [e8, hr, List.getElem?_append_right (Nat.le_refl _), Nat.sub_self]; rfl
theorem lastOf_ky {h : List (Int × Int)} {n : Nat} {x : Int × Int} (e : lastOf h n = some x) : ky x = n := by
  have := List.mem_of_getLast? e
  simpa using (List.mem_filter.1 this).2
theorem rowCells {F : Nat → Prop} {w : World} {A : Option Addr} {c : Nat} {l : List Row} (h : rdRow.Sl F w A c l) {k : Nat} {a b : Int} (hk : l[k]? = some [V a, V b]) :
    ∃ g o g' o' cr, A = some ⟨g, o, none⟩ ∧ w.cell? ⟨g, o + k, none⟩ = some (.slice (some ⟨g', o', none⟩) 2 cr) ∧ w.cell? ⟨g', o', none⟩ = some (.int .i64 a) ∧ w.cell? ⟨g', o' + 1, none⟩ = some (.string emp) ∧ w.cell? ⟨g', o' + 2, none⟩ = some (.int .i64 b) ∧ w.cell? ⟨g', o' + 3, none⟩ = some (.string emp) := by
  obtain ⟨g, o, e, hat⟩ := h.at_ k _ hk
  rw [show k * rdRow.sz = k from Nat.mul_one k] at hat
  obtain ⟨Ar, cr, hc, hs⟩ := rdSl.at_ hat
  obtain ⟨g1, o1, rfl, h1⟩ := hs.at_ 0 (V a) rfl
  obtain ⟨g2, o2, e2, h2⟩ := hs.at_ 1 (V b) rfl
  cases e2
  have q1 := rdVal.at_ h1
  have q2 := rdVal.at_ h2
  exact ⟨g, o, g1, o1, cr, e, hc, q1.1, q1.2, q2.1, q2.2⟩
theorem walk1 (A : Option Addr) (c : Nat) (l : List (Int × Int)) (st : Int) (w : World) (hA : rdPr.Sl (fun _ => False) w A c l) (hw : ∀ x ∈ l, I64 x.1 ∧ I64 x.2) (hs0 : 0 ≤ st) (hs1 : st < 4294967296) :
    Calls Tryz.prog 3 #[.slice A l.length c, .int .u32 st] w fun e w' => e = .returned (.bool true) ∧ Ext w w' := by
  have HW := As.mk hw
  clear hw
  go_enter Tryz.func3, Tryz.ntmps3
  go_wp2_with (fail)
  refine (shownC w).mono ?_; rintro e w1 ⟨rfl, hE1⟩
  go_wp2_with (fail)
  have hEs := ((Ext.refl w1).alloc (.cells #[.int .i64 1, .int .i64 1] 3)).alloc (.cells #[.slice (some ⟨w1.heap.size, 0, none⟩) 2 2, .int .i64 1, .int .i64 2, .int .i64 2] 27)
  have hsc : SchAt (fun _ => False) ((w1.alloc (.cells #[.int .i64 1, .int .i64 1] 3)).alloc (.cells #[.slice (some ⟨w1.heap.size, 0, none⟩) 2 2, .int .i64 1, .int .i64 2, .int .i64 2] 27)) (some ⟨w1.heap.size, 0, none⟩) 2 s1 :=
    Rd.Sl.ext (int_lit (l := [1, 1]) (blk_new w1 (.cells #[.int .i64 1, .int .i64 1] 3)) (fun e => e) rfl (by simp [maxLen])) ((Ext.refl _).alloc _)
  refine (begunC (fun _ => False) (some ⟨w1.heap.size, 0, none⟩) 2 s1 s1ok _ hsc (fun k e => e.elim)).mono ?_
  rintro e w2 ⟨dg, mg, tg, pv, St, rfl, hSt, hT, hparts, hnext, hnew, hE2⟩
  have hE02 : Ext w w2 := (hE1.trans hEs).trans hE2
  have hge : ∀ q, SB tg dg mg pv q → w.heap.size ≤ q := fun q hq => Nat.le_trans (hE1.trans hEs).size (hnew q hq)
  have hTN := tn_of hT hparts (recHead_len s1 s1ok (idsTo 0) (by simp [idsTo]) (fun n hn => by simp [idsTo] at hn) 0 (by decide) |> fun h => Nat.le_trans h (by decide))
  clear hE1 hEs hE2 hsc hnew hT
  obtain ⟨tw, htw⟩ : ∃ x, w2.heap.size = x := ⟨_, rfl⟩
  have hG0 : GS (fun k => k = tw) tg dg mg [] 0 1 pv w2 := ⟨St, _, 1, store_narrow hSt (fun k hk e => by omega), hTN, by rw [hparts]; exact Inv.nil _ _, by rw [hparts]; exact Nat.le_refl _, by rw [hparts]; exact Nat.le_refl _, by omega, Nat.le_refl _⟩
  have hSBlt : ∀ q, SB tg dg mg pv q → q < w2.heap.size := fun q hq => by
    have h1 := hSt.disk.lt
    have hge := hSt.parts.ge
    obtain ⟨Ax, cx, Ai, ci, hb, _⟩ := hSt.at_
    rcases hq with e | e | e | e
    · rw [e]; exact blk_lt hb
    · rw [e]; exact h1.1
    · rw [e]; exact h1.2
    · exact (hge q e).2
  clear hSt hTN hparts hnext St
  go_upto_region 6 with (fail)
  refine wp_region_lit ?_
  refine wpList_buildTo rfl 36 _ rfl _ rfl want0 (by kernel_rfl) ?_
  refine Go.Great.wpList_allocTo rfl _ rfl (.pointer (some ⟨w2.heap.size, 0, none⟩)) (.cells want0 36) (by kernel_rfl) ?_
  rw [htw]
  refine wpList_store_rowTo rfl 36 _ _ rfl rfl tw want0 rfl rfl 36 want0 (by rw [← htw]; exact blk_new _ _) (by kernel_rfl) rfl (by kernel_rfl) ?_
  have hE3 : Ext w2 ((w2.alloc (.cells want0 36)).setRow tw want0) := ext_row ((Ext.refl w2).alloc _) (by omega) _
  have hW3 := want_new w2 tw htw
  have htw3 : tw < ((w2.alloc (.cells want0 36)).setRow tw want0).heap.size := by rw [setRow_size]; simp; omega
  generalize (w2.alloc (.cells want0 36)).setRow tw want0 = w3 at *
  obtain ⟨vz, hvz⟩ : ∃ v, v = Value.agg want0 := ⟨_, rfl⟩
  rw [← hvz]
  clear hvz
  have hG3 := gs_ext hG0 hE3
  have hE03 := hE02.trans hE3
  have htwn : ¬ SB tg dg mg pv tw := fun e => by have := hSBlt tw e; omega
  have htwg : w.heap.size ≤ tw := by rw [← htw]; exact hE02.size
  clear hG0 hE02 hE3 hSBlt htw
  generalize w1.heap.size = x1
  generalize w2.heap.size = x2 at *
  clear w1 w2
  go_wp2_with (fail)
  go_loopw [10, 11] (fun i _ wr => ∃ (j : Nat) (pv : Value), i = .int .i64 j ∧ j ≤ l.length ∧ j ≤ 30 ∧ GS (fun k => k = tw) tg dg mg ((l.take j).map rowP) (2 * j) (3 * j + 1) pv wr ∧ WantAt wr tw (l.take j) ∧ (∀ q, SB tg dg mg pv q → w.heap.size ≤ q) ∧ ¬ SB tg dg mg pv tw ∧ Ext w wr ∧ tw < wr.heap.size) (fun i _ _ => 30 - (intOf i).toNat)
  case atStart => exact ⟨0, pv, by go_num, Nat.zero_le _, Nat.zero_le _, hG3, hW3, hge, htwn, hE03, htw3⟩
  case round =>
    clear hG3 hW3 hge htwn hE03 htw3 pv
    obtain ⟨j, pv, rfl, hjl, hj30, hG, hW, hge, htwn, hE, htw⟩ := hrel
    by_cases hc : j < l.length ∧ j < 30
    · obtain ⟨hlt, h30⟩ := hc
      · obtain ⟨b, o, rfl, hc1, hc2⟩ := pr_get (hA.ext hE) hlt
        obtain ⟨hx, hy⟩ := HW.out l[j] (List.getElem_mem _)
        obtain ⟨p, hp⟩ : ∃ p, l[j] = p := ⟨_, rfl⟩
        rw [hp] at hx hy hc1 hc2
        obtain ⟨x, y⟩ := p
        dsimp only at hx hy hc1 hc2
        have ha7 := and7 x hx.1 (by have := hx.2; omega)
        obtain ⟨kx, hkx⟩ : ∃ k : Nat, x % 8 = (k : Int) := ⟨(x % 8).toNat, by omega⟩
        have hk8 : kx < 8 := by omega
        rw [hkx] at ha7
        have HP := As.mk hp
        have HKX := As.mk hkx
        clear hp hkx
        go_wp2_with (fail)
        have hb1 := blk_new wr (.cells #[.int .i64 kx, .string emp, .int .i64 y, .string emp] 33)
        have hEi := ((Ext.refl wr).alloc (.cells #[.int .i64 kx, .string emp, .int .i64 y, .string emp] 33)).alloc (.cells #[.slice (some ⟨wr.heap.size, 0, none⟩) 2 2] 41)
        have hEj := (Ext.refl (wr.alloc (.cells #[.int .i64 kx, .string emp, .int .i64 y, .string emp] 33))).alloc (.cells #[.slice (some ⟨wr.heap.size, 0, none⟩) 2 2] 41)
        have hFl := gs_lt hG (fun k e => by rw [e]; exact htw)
        have hrow : rdRow.Sl (Fv (SF (fun k => k = tw) tg dg mg) pv) ((wr.alloc (.cells #[.int .i64 kx, .string emp, .int .i64 y, .string emp] 33)).alloc (.cells #[.slice (some ⟨wr.heap.size, 0, none⟩) 2 2] 41)) (some ⟨wr.heap.size + 1, 0, none⟩) 1 [[V kx, V y]] := by
          have hb2 := blk_new (wr.alloc (.cells #[.int .i64 kx, .string emp, .int .i64 y, .string emp] 33)) (.cells #[.slice (some ⟨wr.heap.size, 0, none⟩) 2 2] 41)
          rw [show (wr.alloc (.cells #[.int .i64 kx, .string emp, .int .i64 y, .string emp] 33)).heap.size = wr.heap.size + 1 by simp] at hb2
          refine lit_one rfl hb2 (fun e => by have := hFl _ e; omega) rfl (by simp [maxLen]) (fun k x hk => ?_)
          match k, hk with
          | 0, hk => cases hk; exact ⟨_, rfl, _, _, rfl, (row2 hb1 (fun e => by have := hFl _ e; omega)).ext hEj⟩
          | k + 1, hk => simp at hk
        have hlen : ((l.take j).map rowP).length = j := by rw [List.length_map, List.length_take]; omega
        refine (insT (fun k => k = tw) tg dg mg _ (2 * j) (3 * j + 1) pv _ (gs_ext hG hEi) (by rw [hlen]; exact h30) (by omega) (by omega) [V kx, V y] (rowOk1 ⟨by omega, by omega⟩ hy) _ 1 hrow (fun k e => by rw [e]; exact Nat.lt_of_lt_of_le htw hEi.size)).mono ?_
        rintro e w4 ⟨rfl, pv', hG4, hpv4, hK4⟩
        have hE4 := (hE.trans hEi).keepNew hK4 hge
        have hW4 := (hW.ext hEi).keep hK4 htwn
        have htw4 : tw < w4.heap.size := Nat.lt_of_lt_of_le htw (Nat.le_trans hEi.size hK4.size)
        have hge4 : ∀ q, SB tg dg mg pv' q → w.heap.size ≤ q := fun q e => by
          rcases e with e | e | e | e
          · exact hge q (.inl e)
          · exact hge q (.inr (.inl e))
          · exact hge q (.inr (.inr (.inl e)))
          · exact (hpv4 q e).elim (fun e => hge q (.inr (.inr (.inr e)))) (fun e => Nat.le_trans (hE.trans hEi).size e)
        have htwn4 : ¬ SB tg dg mg pv' tw := by
          rintro (e | e | e | e)
          · exact htwn (.inl e)
          · exact htwn (.inr (.inl e))
          · exact htwn (.inr (.inr (.inl e)))
          · exact (hpv4 _ e).elim (fun e => htwn (.inr (.inr (.inr e)))) (fun e => by have := hEi.size; omega)
        have hr : (l.take j).map rowP ++ [[V kx, V y]] = (l.take (j + 1)).map rowP := by
          rw [take_succ_get l j hlt, List.map_append, List.map_singleton, HP.out]
          show _ = _ ++ [[V (x % 8), V y]]
          rw [HKX.out]
        rw [hr] at hG4
        obtain ⟨b', o', e', hc1', hc2'⟩ := pr_get (hA.ext hE4) hlt
        cases e'
        rw [HP.out] at hc1' hc2'
        dsimp only at hc1' hc2'
        clear hc1' hc1 hc2 hrow hr hFl hb1 hEj hEi hK4 hpv4 hG hW htwn hge hE htw hlen
        generalize wr.heap.size = xr
        clear wr
        obtain ⟨q1, q2, q3⟩ := hW4.2 kx hk8
        have f1 := (hW4.1 (kx * 3) (by omega)).2
        have f2 := (hW4.1 (kx * 3 + 1) (by omega)).2
        have f3 := (hW4.1 (kx * 3 + 2) (by omega)).2
        rw [Nat.zero_add] at f1 f2 f3
        have hW5 := want_put (y := y) hW4 hk8 HKX.out
        have hK5 : Keep (fun k => k = tw) w4 (((w4.setCell ⟨tw, kx * 3, none⟩ (.bool true)).setCell ⟨tw, kx * 3 + 1, none⟩ (.int .i64 y)).setCell ⟨tw, kx * 3 + 2, none⟩ (.string emp)) := ((Keep.setCell (F := fun k => k = tw) _ _ _ rfl).trans (Keep.setCell (F := fun k => k = tw) _ _ _ rfl)).trans (Keep.setCell (F := fun k => k = tw) _ _ _ rfl)
        have hE5 := hE4.keepNew hK5 (fun i e => by rw [e]; exact htwg)
        have hG5 := gs_keep hG4 hK5 (fun i e => e) (fun i e1 e2 => htwn4 (.inr (.inr (.inr (by rw [e1, e2])))))
        have hl5 : l.take j ++ [(x, y)] = l.take (j + 1) := by rw [take_succ_get l j hlt, HP.out]
        rw [hl5] at hW5
        have hS5 := Nat.lt_of_lt_of_le htw4 hK5.size
        have HR := As.mk (And.intro hW5 (And.intro hE5 (And.intro hG5 hS5)))
        clear hW5 hK5 hE5 hG5 hl5 hS5 hW4 hE4 hG4 htw4
        go_wp2_with (fail)
        · obtain ⟨hW5, hE5, hG5, htw5⟩ := HR.out
          clear HR q1 q2 q3 f1 f2 f3
          generalize ((w4.setCell ⟨tw, kx * 3, none⟩ (.bool true)).setCell ⟨tw, kx * 3 + 1, none⟩ (.int .i64 y)).setCell ⟨tw, kx * 3 + 2, none⟩ (.string emp) = w5 at *
          have hlen : ((l.take (j + 1)).map rowP).length = j + 1 := by rw [List.length_map, List.length_take]; omega
          refine (K110.stepT (fun k => k = tw) tg dg mg _ (2 * j + 1) (3 * j + 1 + 1) pv' _ hG5 (by rw [hlen]; omega) (by omega) (by omega) (fun k e => by rw [e]; exact htw5)).mono ?_
          rintro e w6 ⟨⟨bb, rfl⟩, pv6, hG6, hpv6, hK6⟩
          have hE6 := hE5.keepNew hK6 hge4
          have hW6 := hW5.keep hK6 htwn4
          have htw6 : tw < w6.heap.size := Nat.lt_of_lt_of_le htw5 hK6.size
          have hge6 : ∀ q, SB tg dg mg pv6 q → w.heap.size ≤ q := fun q e => by
            rcases e with e | e | e | e
            · exact hge4 q (.inl e)
            · exact hge4 q (.inr (.inl e))
            · exact hge4 q (.inr (.inr (.inl e)))
            · exact (hpv6 q e).elim (fun e => hge4 q (.inr (.inr (.inr e)))) (fun e => Nat.le_trans hE5.size e)
          have htwn6 : ¬ SB tg dg mg pv6 tw := by
            rintro (e | e | e | e)
            · exact htwn4 (.inl e)
            · exact htwn4 (.inr (.inl e))
            · exact htwn4 (.inr (.inr (.inl e)))
            · exact (hpv6 _ e).elim (fun e => htwn4 (.inr (.inr (.inr e)))) (fun e => by omega)
          have HR := As.mk (And.intro hW6 (And.intro hE6 hG6))
          clear hW6 hE6 hG6 hW5 hE5 hG5 hK6
          go_wp2_with (fail)
          go_roundw
          case rel => exact ⟨j + 1, pv6, by go_num, by omega, by omega, gs_mono HR.out.2.2 (by omega) (by omega), HR.out.1, hge6, htwn6, HR.out.2.1, htw6⟩
          case measure => simp [intOf]; omega
        · obtain ⟨hW5, hE5, hG5, htw5⟩ := HR.out
          go_roundw
          case rel => exact ⟨j + 1, pv', by go_num, by omega, by omega, gs_mono hG5 (by omega) (by omega), hW5, hge4, htwn4, hE5, htw5⟩
          case measure => simp [intOf]; omega
    · obtain ⟨m, hm⟩ : ∃ m, l.take j = m := ⟨_, rfl⟩
      rw [hm] at hG hW
      have hmI : ∀ x ∈ m, I64 x.1 ∧ I64 x.2 := fun x hx => HW.out x (by rw [← hm] at hx; exact List.mem_of_mem_take hx)
      have hml : m.length ≤ 30 := by rw [← hm, List.length_take]; omega
      have HF := As.mk (finT (fun k => k = tw) tg dg mg m (2 * j) (3 * j + 1) pv wr hG hmI hml (fun k e => by rw [e]; exact htw))
      clear hG hmI hml hm HW hge htwn
      rcases (show ¬ j < l.length ∨ (j < l.length ∧ ¬ j < 30) by omega) with hn | ⟨hn, hn2⟩
      all_goals
        clear hc
        go_wp2_with (fail)
        refine HF.out.mono ?_; rintro e w7 ⟨A7, c7, rfl, hr7, hE7⟩
        have hW7 := hW.ext hE7
        have hE07 := hE.trans hE7
        clear HF hW hE7 htw
        obtain ⟨R, hR⟩ : ∃ R, rowsOf m = R := ⟨_, rfl⟩
        have HAT := As.mk (fun n (hn : n < 8) x (e : lastOf m n = some x) => hR ▸ rows_at hn e)
        have HR := As.mk hR
        have hRl : R.length ≤ 8 := by rw [← hR]; exact Nat.le_trans (List.length_filterMap_le _ _) (by simp)
        rw [hR] at hr7 ⊢
        clear hR
        go_wp2_with (fail)
        go_loopw [14, 15] (fun n k wr => ∃ kk : Nat, k = .int .i64 kk ∧ kk ≤ 8 ∧ n = .int .i64 (rowsTo m kk).length ∧ Ext w7 wr) (fun _ k _ => 8 - (intOf k).toNat)
        case atStart => exact ⟨0, by go_num, Nat.zero_le _, by go_num, Ext.refl _⟩
        case round =>
          obtain ⟨kk, rfl, hkk, rfl, hEw⟩ := hrel
          by_cases hk8 : kk < 8
          · have hWr := hW7.ext hEw
            obtain ⟨q1, q2, q3⟩ := hWr.2 kk hk8
            clear hWr
            cases hlo : lastOf m kk with
            | none =>
              have hrt := rowsTo_none hlo
              rw [hlo] at q1
              dsimp only [Option.isSome] at q1
              clear hlo q2 q3
              have HRT := As.mk hrt
              clear hrt
              go_wp2_with (fail)
              go_roundw
              case rel => exact ⟨kk + 1, by go_num, by omega, by rw [HRT.out], hEw⟩
              case measure => simp [intOf]; omega
            | some x =>
              have hrt := rowsTo_some hlo
              have hky := lastOf_ky hlo
              have hat := HAT.out kk hk8 x hlo
              rw [hlo] at q1 q2
              dsimp only [Option.isSome, Option.map, Option.getD] at q1 q2
              have hxk : x.1 % 8 = (kk : Int) := by have : (x.1 % 8).toNat = kk := hky; omega
              obtain ⟨y, hy⟩ : ∃ y, x.2 = y := ⟨_, rfl⟩
              rw [hy] at q2
              have hrow : R[(rowsTo m kk).length]? = some [V kk, V y] := by rw [hat, rowP, hxk, hy]
              have hnl : (rowsTo m kk).length < R.length := (List.getElem?_eq_some_iff.1 hrow).1
              obtain ⟨g, o, g', o', cr, rfl, p0, p1, p2, p3, p4⟩ := rowCells (hr7.ext hEw) hrow
              have hrl : (rowsTo m (kk + 1)).length = (rowsTo m kk).length + 1 := by rw [hrt]; simp
              have HRT := As.mk hrl
              clear hlo hrt hky hat hrow hrl hxk hy
              obtain ⟨n, hn⟩ : ∃ n, (rowsTo m kk).length = n := ⟨_, rfl⟩
              rw [hn] at hnl p0 ⊢
              have HN := As.mk hn
              clear hn
              have hdn : decide ((R.length : Int) ≤ (n : Int)) = false := decide_eq_false (by omega)
              go_upto_region 22 with (fail)
              go_quiet (fail)
              go_wp2_with (fail)
              go_roundw
              case rel => exact ⟨kk + 1, by go_num, by omega, by rw [HRT.out, HN.out]; go_num, by first | exact hEw | exact hEw.drew | exact hEw.drewN _⟩
              case measure => simp [intOf]; omega
          · obtain rfl : kk = 8 := by omega
            have e8 : rowsTo m 8 = R := HR.out
            rw [e8]
            clear e8
            have hE0w := hE07.trans hEw
            go_wp2_with (fail)
            go_ret
            exact ⟨rfl, hE0w⟩
end K111
end Go.Proofs.YtbjeejimedhniaaGreatDoor
