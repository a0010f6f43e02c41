/- Contracts of the program's functions, as the walks of the law use them. -/
import Derived.Test.YtbjeejimedhniaaGreatDoorC2
import Derived.Test.YtbjeejimedhniaaGreatDoorC1
import Derived.Shelf.Strings.OnBuilder
import Derived.Shelf.Strconv.Itoa4
import Derived.Test.YtbjeejimedhniaaGreatDoorProg
namespace Go.Proofs.YtbjeejimedhniaaGreatDoor
namespace K88
open Go Go.RowKit KB K1 K2
set_option linter.unusedVariables false
set_option linter.unusedSimpArgs false
set_option maxHeartbeats 1000000
set_option maxRecDepth 100000
/-- A word that says a number of a type, at all worlds that have grown out of w. -/
def Says (w : World) (t : Int) (s : ByteArray) (n : Int) : Prop :=
  I64 n ∧ s ≠ emp ∧
  (t = 1 ∧ (∀ W, Ext w W → Calls Tryz.prog 269 #[.string s, .int .i64 10, .int .i64 64] W fun e w' => e = .returned (.tuple #[.int .i64 n, .nilIface]) ∧ Ext W w') ∧
    (∀ W, Ext w W → Calls Tryz.prog 334 #[.int .i64 n, .int .i64 10] W fun e w' => e = .returned (.string s) ∧ Ext W w') ∨
   t = 2 ∧ ∃ u : Int, IntKind.u64.wrap n = u ∧ IntKind.i64.wrap u = n ∧ (∀ W, Ext w W → Calls Tryz.prog 270 #[.string s, .int .i64 10, .int .i64 64] W fun e w' => e = .returned (.tuple #[.int .u64 u, .nilIface]) ∧ Ext W w') ∧
    (∀ W, Ext w W → Calls Tryz.prog 335 #[.int .u64 u, .int .i64 10] W fun e w' => e = .returned (.string s) ∧ Ext W w'))
theorem Says.ext {w w' : World} {t : Int} {s : ByteArray} {n : Int} (h : Says w t s n) (k : Ext w w') : Says w' t s n := by
  obtain ⟨h1, h2, h3⟩ := h
  refine ⟨h1, h2, ?_⟩
  rcases h3 with ⟨a, b, c⟩ | ⟨a, u, b, c, d, e⟩
  · exact .inl ⟨a, fun W q => b W (k.trans q), fun W q => c W (k.trans q)⟩
  · exact .inr ⟨a, u, b, c, fun W q => d W (k.trans q), fun W q => e W (k.trans q)⟩
theorem Says.ok {w : World} {t : Int} {s : ByteArray} {n : Int} (h : Says w t s n) : ValOk t (n, emp) := by
  rcases h.2.2 with ⟨a, _⟩ | ⟨a, _⟩
  · exact ⟨h.1, .inl ⟨.inl a, rfl⟩⟩
  · exact ⟨h.1, .inl ⟨.inr a, rfl⟩⟩
theorem textC (t : Int) (s : ByteArray) (n : Int) (w : World) (h : Says w t s n) : Calls Tryz.prog 272 #[.int .i64 t, valV (n, emp)] w fun e w' => e = .returned (.string s) ∧ Ext w w' := by
  have hv := h.ok
  have hfit := fun W => fits t (n, emp) hv W
  obtain ⟨h1, h2, h3⟩ := h
  have hB := blk_new w (.cells #[.int .i64 n, .string emp] 33)
  have hE0 := (Ext.refl w).alloc (.cells #[.int .i64 n, .string emp] 33)
  rcases h3 with ⟨rfl, h4, h5⟩ | ⟨rfl, u, h6, h7, h4, h5⟩
  · have H5 := As.mk h5
    have HF := As.mk hfit
    clear h4 h5 hfit hv
    go_enter Tryz.func272, Tryz.ntmps272
    go_wp2_with (fail)
    refine (HF.out _).mono ?_; rintro e w1 ⟨rfl, hE1⟩
    have hB1 := hE1.blk hB
    (have p0 := blk_cell (hB1) 0; have p1 := blk_cell (hB1) 1)
    go_wp2_with (fail)
    refine (H5.out _ (hE0.trans hE1)).mono ?_; rintro e w2 ⟨rfl, hE2⟩
    go_wp2
    go_ret
    exact ⟨rfl, (hE0.trans hE1).trans hE2⟩
  · have H5 := As.mk h5
    have HF := As.mk hfit
    clear h4 h5 hfit hv
    go_enter Tryz.func272, Tryz.ntmps272
    go_wp2_with (fail)
    refine (HF.out _).mono ?_; rintro e w1 ⟨rfl, hE1⟩
    have hB1 := hE1.blk hB
    (have p0 := blk_cell (hB1) 0; have p1 := blk_cell (hB1) 1)
    go_wp2_with (fail)
    refine (H5.out _ (hE0.trans hE1)).mono ?_; rintro e w2 ⟨rfl, hE2⟩
    go_wp2
    go_ret
    exact ⟨rfl, (hE0.trans hE1).trans hE2⟩
theorem readC (t : Int) (s : ByteArray) (n : Int) (w : World) (h : Says w t s n) : Calls Tryz.prog 192 #[.int .i64 t, .string s] w fun e w' => e = .returned (.tuple #[valV (n, emp), .bool true]) ∧ Ext w w' := by
  have hs := h
  have hne := h.2.1
  obtain ⟨h1, h2, h3⟩ := h
  have hB0 := blk_new w (.cells #[.int .i64 0, .string emp] 33)
  have hB1 := blk_new (w.alloc (.cells #[.int .i64 0, .string emp] 33)) (.cells #[.int .i64 0, .string emp] 33)
  have hB2 := ((Ext.refl (w.alloc (.cells #[.int .i64 0, .string emp] 33))).alloc (.cells #[.int .i64 0, .string emp] 33)).blk hB0
  have hE0 := ((Ext.refl w).alloc (.cells #[.int .i64 0, .string emp] 33)).alloc (.cells #[.int .i64 0, .string emp] 33)
  simp only [World.size_alloc] at hB1
  have hd1 : ¬ s.toList = [] := fun q => hne (by rw [Lib.toList_data] at q; exact ByteArray.ext (Array.toList_inj.1 q))
  have hd2 : s.toList.isEmpty = false := by rw [Bool.eq_false_iff]; intro q; exact hd1 (List.isEmpty_iff.1 q)
  clear hne h2
  rcases h3 with ⟨rfl, h4, h5⟩ | ⟨rfl, u, h6, h7, h4, h5⟩
  all_goals
    have H4 := As.mk h4
    have HS := As.mk hs
    clear h4 h5 hB0 hs
  · go_enter Tryz.func192, Tryz.ntmps192
    go_wp2_with (fail)
    refine (H4.out _ hE0).mono ?_; rintro e w1 ⟨rfl, hE1⟩
    have hb1 := hE1.blk hB1
    have hb2 := hE1.blk hB2
    have hE01 := hE0.trans hE1
    clear hB1 hB2
    (have p0 := blk_cell (hb1) 0; have pf0 := blk_froz (hb1) 0; have p1 := blk_cell (hb1) 1; have pf1 := blk_froz (hb1) 1)
    (have q0 := blk_cell (hb2) 0; have qf0 := blk_froz (hb2) 0; have q1 := blk_cell (hb2) 1; have qf1 := blk_froz (hb2) 1)
    go_wp2_with (fail)
    go_region
    (try simp only [Exit.inBlock, Exit.then])
    have K1 := keep_set1 w1 (w.heap.size + 1) 0 (.int .i64 n)
    have hb3 := (Ext.refl _).drew.blk (blk_set hb1 0 (.int .i64 n))
    have hb4 := (Ext.refl _).drew.blk (K1.blk (by omega) hb2)
    have hE2 : Ext w (w1.setCell ⟨w.heap.size + 1, 0, none⟩ (.int .i64 n)).drew := (hE01.setCell (a := ⟨w.heap.size + 1, 0, none⟩) (by show w.heap.size ≤ w.heap.size + 1; omega) _).drew
    clear p0 pf0 p1 pf1 q0 qf0 q1 qf1 hb1 hb2 K1
    generalize (w1.setCell ⟨w.heap.size + 1, 0, none⟩ (.int .i64 n)).drew = w2 at *
    (have p0 := blk_cell (hb3) 0; have pf0 := blk_froz (hb3) 0; have p1 := blk_cell (hb3) 1; have pf1 := blk_froz (hb3) 1)
    go_wp2_with (fail)
    refine (textC 1 s n _ (HS.out.ext hE2)).mono ?_; rintro e w3 ⟨rfl, hE3⟩
    have hb5 := hE3.blk hb3
    have hb6 := hE3.blk hb4
    clear p0 pf0 p1 pf1
    (have p0 := blk_cell (hb5) 0; have pf0 := blk_froz (hb5) 0; have p1 := blk_cell (hb5) 1; have pf1 := blk_froz (hb5) 1)
    (have q0 := blk_cell (hb6) 0; have qf0 := blk_froz (hb6) 0; have q1 := blk_cell (hb6) 1; have qf1 := blk_froz (hb6) 1)
    go_wp2_with (fail)
    have hb7 := blk_set (blk_set hb6 0 (.int .i64 n)) 1 (.string emp)
    have e0 := blk_cell hb7 0
    have e1 := blk_cell hb7 1
    refine bodyPost_ret (v := .tuple #[valV (n, emp), .bool true]) (by simp [results, Tryz.results192, go_sem, e0, e1]) rfl ?_
    exact ⟨rfl, ((hE2.trans hE3).setCell (a := ⟨w.heap.size, 0, none⟩) (Nat.le_refl _) _).setCell (a := ⟨w.heap.size, 1, none⟩) (Nat.le_refl _) _⟩
  · go_enter Tryz.func192, Tryz.ntmps192
    go_wp2_with (fail)
    refine (H4.out _ hE0).mono ?_; rintro e w1 ⟨rfl, hE1⟩
    have hb1 := hE1.blk hB1
    have hb2 := hE1.blk hB2
    have hE01 := hE0.trans hE1
    clear hB1 hB2
    (have p0 := blk_cell (hb1) 0; have pf0 := blk_froz (hb1) 0; have p1 := blk_cell (hb1) 1; have pf1 := blk_froz (hb1) 1)
    (have q0 := blk_cell (hb2) 0; have qf0 := blk_froz (hb2) 0; have q1 := blk_cell (hb2) 1; have qf1 := blk_froz (hb2) 1)
    go_wp2_with (fail)
    go_region
    (try simp only [Exit.inBlock, Exit.then])
    have K1 := keep_set1 w1 (w.heap.size + 1) 0 (.int .i64 n)
    have hb3 := (Ext.refl _).drew.blk (blk_set hb1 0 (.int .i64 n))
    have hb4 := (Ext.refl _).drew.blk (K1.blk (by omega) hb2)
    have hE2 : Ext w (w1.setCell ⟨w.heap.size + 1, 0, none⟩ (.int .i64 n)).drew := (hE01.setCell (a := ⟨w.heap.size + 1, 0, none⟩) (by show w.heap.size ≤ w.heap.size + 1; omega) _).drew
    clear p0 pf0 p1 pf1 q0 qf0 q1 qf1 hb1 hb2 K1
    generalize (w1.setCell ⟨w.heap.size + 1, 0, none⟩ (.int .i64 n)).drew = w2 at *
    (have p0 := blk_cell (hb3) 0; have pf0 := blk_froz (hb3) 0; have p1 := blk_cell (hb3) 1; have pf1 := blk_froz (hb3) 1)
    go_wp2_with (fail)
    refine (textC 2 s n _ (HS.out.ext hE2)).mono ?_; rintro e w3 ⟨rfl, hE3⟩
    have hb5 := hE3.blk hb3
    have hb6 := hE3.blk hb4
    clear p0 pf0 p1 pf1
    (have p0 := blk_cell (hb5) 0; have pf0 := blk_froz (hb5) 0; have p1 := blk_cell (hb5) 1; have pf1 := blk_froz (hb5) 1)
    (have q0 := blk_cell (hb6) 0; have qf0 := blk_froz (hb6) 0; have q1 := blk_cell (hb6) 1; have qf1 := blk_froz (hb6) 1)
    go_wp2_with (fail)
    have hb7 := blk_set (blk_set hb6 0 (.int .i64 n)) 1 (.string emp)
    have e0 := blk_cell hb7 0
    have e1 := blk_cell hb7 1
    refine bodyPost_ret (v := .tuple #[valV (n, emp), .bool true]) (by simp [results, Tryz.results192, go_sem, e0, e1]) rfl ?_
    exact ⟨rfl, ((hE2.trans hE3).setCell (a := ⟨w.heap.size, 0, none⟩) (Nat.le_refl _) _).setCell (a := ⟨w.heap.size, 1, none⟩) (Nat.le_refl _) _⟩
theorem toldC (w : World) : Calls Tryz.prog 190 #[.int .i64 0] w fun e w' => e = .returned (.string ⟨#[111, 107]⟩) ∧ w = w' := by
  go_enter Tryz.func190, Tryz.ntmps190
  go_wp2
  go_ret
  exact ⟨rfl, rfl⟩
theorem numberC (s : ByteArray) (n : Int) (h0 : 0 ≤ n) (h1 : n ≤ 999999) (w : World) (h : Says w 1 s n) : Calls Tryz.prog 197 #[.string s] w fun e w' => e = .returned (.tuple #[.int .i64 n, .bool true]) ∧ Ext w w' := by
  have HR := As.mk (readC 1 s n w h)
  have d0 : decide (n ≤ 999999) = true := decide_eq_true h1
  have d1 : decide (0 ≤ n) = true := decide_eq_true h0
  clear h
  go_enter Tryz.func197, Tryz.ntmps197
  go_wp2_with (fail)
  refine HR.out.mono ?_; rintro e w1 ⟨rfl, hE1⟩
  have hB := blk_new w1 (.cells #[.int .i64 n, .string emp] 33)
  have hE2 := hE1.alloc (.cells #[.int .i64 n, .string emp] 33)
  go_wp2_with (fail)
  generalize w1.alloc (.cells #[.int .i64 n, .string emp] 33) = w2 at *
  (have p0 := blk_cell (hB) 0; have p1 := blk_cell (hB) 1)
  go_region
  (try simp only [Exit.inBlock, Exit.then])
  go_wp2
  refine bodyPost_ret (v := .tuple #[.int .i64 n, .bool true]) (by simp [results, Tryz.results197, go_sem]) rfl ?_
  exact ⟨rfl, (by (repeat (first | with_reducible refine Ext.drew ?_ | with_reducible refine Ext.drewN ?_ _ | with_reducible refine Ext.alloc ?_ _)); first | with_reducible assumption | with_reducible exact Ext.refl _)⟩
/-- Words that say numbers. -/
def SaysL (w : World) (l : List ByteArray) (ns : List Int) : Prop := l.length = ns.length ∧ ∀ k (h : k < l.length) (h' : k < ns.length), Says w 1 l[k] ns[k] ∧ 0 ≤ ns[k] ∧ ns[k] ≤ 999999
theorem SaysL.ext {w w' : World} {l : List ByteArray} {ns : List Int} (h : SaysL w l ns) (k : Ext w w') : SaysL w' l ns := ⟨h.1, fun i h1 h2 => ⟨(h.2 i h1 h2).1.ext k, (h.2 i h1 h2).2⟩⟩
theorem take_succ_get {α : Type} (l : List α) (k : Nat) (h : k < l.length) : l.take (k + 1) = l.take k ++ [l[k]] := by rw [List.take_add_one, List.getElem?_eq_getElem h]; rfl
theorem elIntN : El Tryz.prog 25 3 (rdInt .i64).sz 8 := El.mk (z := .int .i64 0) Tryz.underlying25 (by kernel_rfl) rfl (by decide)
theorem numbersC (F : Nat → Prop) (A : Option Addr) (c : Nat) (l : List ByteArray) (ns : List Int) (w : World) (hl : rdStr.Sl F w A c l) (hn : l.length ≤ 100000) (h : SaysL w l ns) (hF : ∀ k, F k → k < w.heap.size) :
    Calls Tryz.prog 110 #[.slice A l.length c] w fun e w' => ∃ v, e = .returned (.tuple #[v, .bool true]) ∧ (rdInt .i64).Own F w.heap.size 3 w' v ns ∧ Ext w w' := by
  have HS := As.mk h
  have hlen : As (ns.length = l.length) := ⟨h.1.symm⟩
  clear h
  go_enter Tryz.func110, Tryz.ntmps110
  go_wp2_with (fail)
  go_loopw [4, 11] (fun v i wr => ∃ k : Nat, i = .int .i64 k ∧ k ≤ l.length ∧ (rdInt .i64).Own F w.heap.size 3 wr v (ns.take k) ∧ Ext w wr) (fun _ i _ => l.length - (intOf i).toNat)
  case atStart => exact ⟨0, by go_num, Nat.zero_le _, Rd.Own.nil _ _ _ _ _, Ext.refl _⟩
  case round =>

    obtain ⟨k, rfl, hkl, hown, hE⟩ := hrel
    by_cases hlt : k < l.length
    · obtain ⟨b, o, rfl, hc⟩ := str_get (hl.ext hE) hlt
      have hk2 : k < ns.length := by rw [hlen.out]; exact hlt
      obtain ⟨hs1, hs2, hs3⟩ := HS.out.2 k hlt hk2
      obtain ⟨n, hn0⟩ : ∃ n, ns[k] = n := ⟨_, rfl⟩
      obtain ⟨s, hs0⟩ : ∃ s, l[k] = s := ⟨_, rfl⟩
      rw [hs0] at hs1 hc
      rw [hn0] at hs1 hs2 hs3
      have HN := As.mk (numberC s n hs2 hs3 wr (hs1.ext hE))
      have HN0 := As.mk hn0
      clear hs1 hs2 hs3 hn0 hs0
      go_wp2_with (fail)
      refine HN.out.mono ?_; rintro e w1 ⟨rfl, hE1⟩
      have hownc := hown.ext hE1
      have hfk : As ((ns.take k).length = k) := ⟨by rw [List.length_take]; omega⟩
      have hE01 := hE.trans hE1
      go_wp2_with (first | (at_builtin; refine wpList_push rfl _ _ _ rfl (rdInt .i64) elIntN rfl (hownc.ext ((Ext.refl _).alloc _)) rfl (heap_alloc_new _ _) (y := n) rfl (by rw [hfk.out]; omega) (by rw [hfk.out]; unfold maxLen; omega) (by have := hE01.size; simp; omega) (hE01.alloc _) ?_; intro v' w2 hown2 hg2 hE2))
      rw [← HN0.out, ← take_succ_get ns k hk2] at hown2
      go_roundw
      case rel => exact ⟨k + 1, by go_num, by omega, hown2, hE2⟩
      case measure => simp [intOf] <;> omega
    · obtain rfl : k = l.length := by omega
      have ht : ns.take l.length = ns := List.take_of_length_le (by rw [hlen.out]; exact Nat.le_refl _)
      rw [ht] at hown
      clear ht
      go_wp2_with (fail)
      refine bodyPost_ret (v := .tuple #[u4, .bool true]) (by simp [results, Tryz.results110, go_sem]) rfl ?_
      exact ⟨u4, rfl, hown, hE⟩
end K88
namespace K90
open Go Go.RowKit KB K88 K89
set_option linter.unusedVariables false
set_option linter.unusedSimpArgs false
set_option maxHeartbeats 1000000
set_option maxRecDepth 100000
theorem indexC (F : Nat → Prop) (A : Option Addr) (c : Nat) (l : List ByteArray) (s : ByteArray) (k : Nat) (w : World) (hl : rdStr.Sl F w A c l) (hn : l.length ≤ 100000) (hk : k < l.length) (hs : l[k] = s) (hb : ∀ j (h : j < k), l[j]'(by omega) ≠ s) :
    Calls Tryz.prog 145 #[.slice A l.length c, .string s] w fun e w' => e = .returned (.int .i64 k) ∧ Ext w w' := by
  have HB := As.mk hb
  have HS := As.mk hs
  clear hb hs
  go_enter Tryz.func145, Tryz.ntmps145
  go_wp2_with (fail)
  go_loopw [8] (fun i wr => ∃ j : Nat, i = .int .i64 j ∧ j ≤ k ∧ Ext w wr) (fun i _ => l.length - (intOf i).toNat)
  case atStart => exact ⟨0, by go_num, Nat.zero_le _, Ext.refl _⟩
  case round =>
    obtain ⟨j, rfl, hjk, hE⟩ := hrel
    obtain ⟨b, o, rfl, hc⟩ := str_get (hl.ext hE) (show j < l.length by omega)
    by_cases hlt : j < k
    · have hne := HB.out j hlt
      obtain ⟨x, hx⟩ : ∃ x, l[j] = x := ⟨_, rfl⟩
      rw [hx] at hne hc
      have hne2 : ¬ s = x := fun q => hne q.symm
      have hne3 : (s.toList == x.toList) = false := by rw [beq_eq_false_iff_ne]; intro q; rw [Lib.toList_data, Lib.toList_data] at q; exact hne2 (ByteArray.ext (Array.toList_inj.1 q))
      clear hne2 hne
      have hj2 : j < l.length := by omega
      clear hx
      go_wp2_with (fail)
      go_roundw
      case rel => exact ⟨j + 1, by go_num, by omega, hE⟩
      case measure => simp [intOf] <;> omega
    · obtain rfl : j = k := by omega
      rw [HS.out] at hc
      go_wp2_with (fail)
      go_ret
      exact ⟨rfl, hE⟩
theorem amongC (F : Nat → Prop) (A : Option Addr) (c : Nat) (l : List ByteArray) (s : ByteArray) (k : Nat) (w : World) (hl : rdStr.Sl F w A c l) (hn : l.length ≤ 100000) (hk : k < l.length) (hs : l[k] = s) (hb : ∀ j (h : j < k), l[j]'(by omega) ≠ s) :
    Calls Tryz.prog 188 #[.string s, .slice A l.length c] w fun e w' => e = .returned (.int .i64 (k + 1)) ∧ Ext w w' := by
  have HI := As.mk (indexC F A c l s k w hl hn hk hs hb)
  clear hb hs hl
  go_enter Tryz.func188, Tryz.ntmps188
  go_wp2_with (fail)
  refine HI.out.mono ?_; rintro e w1 ⟨rfl, hE⟩
  go_wp2_with (fail)
  go_ret
  exact ⟨rfl, hE⟩
/-- The words that are left, and none was bad: cells of a block. -/
def WordsAt (F : Nat → Prop) (w : World) (b : Nat) (l : List ByteArray) : Prop := ∃ A c, w.heap[b]? = some (.cells #[.slice A l.length c, .bool false] 271 (0, 0)) ∧ ¬ F b ∧ rdStr.Sl (fun k => F k ∨ k = b) w A c l
theorem nextC (F : Nat → Prop) (b : Nat) (s : ByteArray) (l : List ByteArray) (w : World) (h : WordsAt F w b (s :: l)) (hn : (s :: l).length ≤ 100000) :
    Calls Tryz.prog 276 #[.pointer (some ⟨b, 0, none⟩)] w fun e w' => e = .returned (.string s) ∧ WordsAt F w' b l ∧ Keep (fun k => k = b) w w' := by
  obtain ⟨A, c, hb, hf, hs⟩ := h
  obtain ⟨b1, o1, rfl, hc⟩ := str_get hs (k := 0) (by simp)
  simp only [List.getElem_cons_zero, Nat.add_zero] at hc
  obtain ⟨A2, hrun, hs2⟩ := hs.suf elStr 1 l.length 1 (by simp) rfl (by simp)
  have hL : (s :: l).length = l.length + 1 := rfl
  rw [hL] at hrun hn hb
  have K1 := keep_set1 w b 0 (.slice A2 l.length (c - 1))
  have hb2 := blk_set hb 0 (.slice A2 l.length (c - 1))
  have HS2 := As.mk hs2
  have HK := As.mk K1
  have HB2 := As.mk hb2
  (have p0 := blk_cell (hb) 0; have pf0 := blk_froz (hb) 0; have p1 := blk_cell (hb) 1; have pf1 := blk_froz (hb) 1)
  clear hs hs2 K1 hb hb2
  have n0 : ¬ ((l.length : Int) + 1 = 0) := by omega
  have n1 : (0 : Int) < (l.length : Int) + 1 := by omega
  go_enter Tryz.func276, Tryz.ntmps276
  go_wp2_with (fail)
  go_ret
  exact ⟨rfl, ⟨_, _, HB2.out, hf, HS2.out.keep (HK.out.mono (fun _ _ q => .inr q))⟩, HK.out⟩
theorem isC (F : Nat → Prop) (b : Nat) (s : ByteArray) (l : List ByteArray) (w : World) (h : WordsAt F w b (s :: l)) (hn : (s :: l).length ≤ 100000) :
    Calls Tryz.prog 273 #[.pointer (some ⟨b, 0, none⟩), .string s] w fun e w' => e = .returned (.bool true) ∧ WordsAt F w' b l ∧ Keep (fun k => k = b) w w' := by
  obtain ⟨A, c, hb, hf, hs⟩ := h
  obtain ⟨b1, o1, rfl, hc⟩ := str_get hs (k := 0) (by simp)
  simp only [List.getElem_cons_zero, Nat.add_zero] at hc
  obtain ⟨A2, hrun, hs2⟩ := hs.suf elStr 1 l.length 1 (by simp) rfl (by simp)
  have hL : (s :: l).length = l.length + 1 := rfl
  rw [hL] at hrun hn hb
  have K1 := keep_set1 w b 0 (.slice A2 l.length (c - 1))
  have hb2 := blk_set hb 0 (.slice A2 l.length (c - 1))
  have HS2 := As.mk hs2
  have HK := As.mk K1
  have HB2 := As.mk hb2
  (have p0 := blk_cell (hb) 0; have pf0 := blk_froz (hb) 0; have p1 := blk_cell (hb) 1; have pf1 := blk_froz (hb) 1)
  clear hs hs2 K1 hb hb2
  have n0 : ¬ ((l.length : Int) + 1 = 0) := by omega
  have n1 : (0 : Int) < (l.length : Int) + 1 := by omega
  go_enter Tryz.func273, Tryz.ntmps273
  go_wp2_with (fail)
  go_ret
  exact ⟨rfl, ⟨_, _, HB2.out, hf, HS2.out.keep (HK.out.mono (fun _ _ q => .inr q))⟩, HK.out⟩
theorem isntC (F : Nat → Prop) (b : Nat) (s : ByteArray) (l : List ByteArray) (w : World) (h : WordsAt F w b l) (hne : l.head? ≠ some s) (hn : l.length ≤ 100000) :
    Calls Tryz.prog 273 #[.pointer (some ⟨b, 0, none⟩), .string s] w fun e w' => e = .returned (.bool false) ∧ Ext w w' := by
  obtain ⟨A, c, hb, hf, hs⟩ := h
  cases l with
  | nil =>
    (have p0 := blk_cell (hb) 0; have pf0 := blk_froz (hb) 0; have p1 := blk_cell (hb) 1; have pf1 := blk_froz (hb) 1)
    clear hb
    go_enter Tryz.func273, Tryz.ntmps273
    go_wp2_with (fail)
    go_ret
    exact ⟨rfl, Ext.refl _⟩
  | cons x l =>
    obtain ⟨b1, o1, rfl, hc⟩ := str_get hs (k := 0) (by simp)
    simp only [List.getElem_cons_zero, Nat.add_zero] at hc
    have hL : (x :: l).length = l.length + 1 := rfl
    have q : ¬ x = s := fun q => hne (by rw [q]; rfl)
    have q1 : (x.toList == s.toList) = false := by rw [beq_eq_false_iff_ne]; intro e; rw [Lib.toList_data, Lib.toList_data] at e; exact q (ByteArray.ext (Array.toList_inj.1 e))
    rw [hL] at hn hb
    (have p0 := blk_cell (hb) 0; have pf0 := blk_froz (hb) 0; have p1 := blk_cell (hb) 1; have pf1 := blk_froz (hb) 1)
    clear hs hb hne q
    have n0 : ¬ ((l.length : Int) + 1 = 0) := by omega
    have n1 : (0 : Int) < (l.length : Int) + 1 := by omega
    go_enter Tryz.func273, Tryz.ntmps273
    go_wp2_with (fail)
    go_ret
    exact ⟨rfl, Ext.refl _⟩
end K90
namespace KB
open Go Go.RowKit
set_option linter.unusedVariables false
set_option linter.unusedSimpArgs false
variable {α : Type}
theorem seg_set {xs : List Value} {sz i k j : Nat} {u : Value} (hj : j < sz) : ((xs.set (i * sz + j) u).drop (k * sz)).take sz = if i = k then ((xs.drop (k * sz)).take sz).set j u else (xs.drop (k * sz)).take sz := by
  by_cases e : i = k
  · subst e
    rw [if_pos rfl]
    apply List.ext_getElem?
    intro m
    rw [List.getElem?_take, List.getElem?_drop, List.getElem?_set, List.getElem?_set, List.getElem?_take, List.getElem?_drop, List.length_take, List.length_drop]
    by_cases hm : m < sz
    · rw [if_pos hm, if_pos hm]
      by_cases e2 : j = m
      · subst e2
        rw [if_pos rfl, if_pos rfl]
        by_cases h3 : i * sz + j < xs.length
        · rw [if_pos h3, if_pos (by omega)]
        · rw [if_neg h3, if_neg (by omega)]
      · rw [if_neg (by omega), if_neg e2]
    · rw [if_neg hm, if_neg hm, if_neg (by omega)]
  · rw [if_neg e]
    apply List.ext_getElem?
    intro m
    rw [List.getElem?_take, List.getElem?_take]
    by_cases hm : m < sz
    · rw [if_pos hm, if_pos hm, List.getElem?_drop, List.getElem?_drop, List.getElem?_set_ne]
      intro h
      rcases Nat.lt_or_gt_of_ne e with h1 | h1
      · have : (i + 1) * sz ≤ k * sz := Nat.mul_le_mul_right _ h1
        rw [Nat.succ_mul] at this; omega
      · have : (k + 1) * sz ≤ i * sz := Nat.mul_le_mul_right _ h1
        rw [Nat.succ_mul] at this; omega
    · rw [if_neg hm, if_neg hm]
theorem own_n {R : Rd α} {F : Nat → Prop} {B : Nat} {e : TypeId} {w : World} {g n cap : Nat} {l : List α} (h : R.Own F B e w (.slice (some ⟨g, 0, none⟩) n cap) l) : n = l.length := by
  obtain ⟨xs, ho, hC⟩ := h
  rcases ho.2 with ⟨h', _⟩ | ⟨g', cap', cur, h', _⟩
  · cases h'
  · simp only [Value.slice.injEq] at h'; exact h'.2.1
/-- What is owned and not empty lies at the head of a block. -/
theorem own_some {R : Rd α} {F : Nat → Prop} {B : Nat} {e : TypeId} {w : World} {v : Value} {l : List α} (h : R.Own F B e w v l) (hl : 0 < l.length) : ∃ g cap, v = .slice (some ⟨g, 0, none⟩) l.length cap ∧ B ≤ g ∧ g < w.heap.size := by
  have hge := h.ge
  obtain ⟨xs, ho, hC⟩ := h
  rcases ho.2 with ⟨rfl, hn⟩ | ⟨g, cap, cur, rfl, hb, hg, rest⟩
  · omega
  · exact ⟨g, cap, rfl, hge g rfl⟩
theorem Rd.Own.cellj {R : Rd α} {F : Nat → Prop} {B : Nat} {e : TypeId} {w : World} {g n cap : Nat} {l : List α} (h : R.Own F B e w (.slice (some ⟨g, 0, none⟩) n cap) l) {i : Nat} (hi : i < l.length) :
    ∃ cs, R.C (Fv F (.slice (some ⟨g, 0, none⟩) n cap)) w cs l[i] ∧ (∀ j u, cs[j]? = some u → w.cell? ⟨g, i * R.sz + j, none⟩ = some u) ∧ ∀ j, w.frozen? ⟨g, j, none⟩ = false := by
  obtain rfl := own_n h
  obtain ⟨xs, ho, hC⟩ := h
  have hxl := ho.1
  have e : (i + 1) * R.sz ≤ l.length * R.sz := Nat.mul_le_mul_right _ hi
  rw [Nat.succ_mul] at e
  refine ⟨_, hC i _ (List.getElem?_eq_getElem hi), fun j u hj => ?_, fun j => ho.frozenAt j⟩
  have hj' : j < R.sz := by have := (List.getElem?_eq_some_iff.1 hj).1; simp at this; omega
  rw [List.getElem?_take, if_pos hj', List.getElem?_drop] at hj
  rw [ho.cellAt _ (by omega)]; exact hj
theorem Rd.Own.setj {R : Rd α} {F : Nat → Prop} {B : Nat} {e : TypeId} {w : World} {g n cap : Nat} {l : List α} (h : R.Own F B e w (.slice (some ⟨g, 0, none⟩) n cap) l) {i j : Nat} (hi : i < l.length) (hj : j < R.sz) {u : Value} {y : α}
    (hy : ∀ cs, R.C (Fv F (.slice (some ⟨g, 0, none⟩) n cap)) w cs l[i] → R.C (Fv F (.slice (some ⟨g, 0, none⟩) n cap)) w (cs.set j u) y) : R.Own F B e (w.setCell ⟨g, i * R.sz + j, none⟩ u) (.slice (some ⟨g, 0, none⟩) n cap) (l.set i y) := by
  obtain rfl := own_n h
  obtain ⟨xs, ho, hC⟩ := h
  have hK : Keep (Fv F (.slice (some ⟨g, 0, none⟩) l.length cap)) w (w.setCell ⟨g, i * R.sz + j, none⟩ u) := Keep.setCell _ _ _ (.inr rfl)
  refine ⟨xs.set (i * R.sz + j) u, ?_, fun k x hk => ?_⟩
  · rw [List.length_set]; exact (ho.stored (i * R.sz + j) u).1
  · refine R.keep hK ?_
    rw [seg_set hj]
    by_cases hik : i = k
    · subst hik
      rw [if_pos rfl]
      rw [List.getElem?_set_self hi] at hk
      cases hk
      exact hy _ (hC i _ (List.getElem?_eq_getElem hi))
    · rw [List.getElem?_set_ne hik] at hk
      rw [if_neg hik]
      exact hC k x hk
end KB
namespace KB
open Go Go.RowKit
set_option linter.unusedVariables false
set_option linter.unusedSimpArgs false
variable {α : Type}
theorem Rd.Own.take {R : Rd α} {F : Nat → Prop} {B : Nat} {e : TypeId} {w : World} {g n cap : Nat} {l : List α} (h : R.Own F B e w (.slice (some ⟨g, 0, none⟩) n cap) l) {m : Nat} (hm : m ≤ l.length) : R.Own F B e w (.slice (some ⟨g, 0, none⟩) m cap) (l.take m) := by
  obtain rfl := own_n h
  obtain ⟨xs, ho, hC⟩ := h
  rcases ho.2 with ⟨h', _⟩ | ⟨g', cap', cur, h', hb, hg, hnc, hcm, hcs, htake⟩
  · cases h'
  simp only [Value.slice.injEq, Option.some.injEq, Addr.mk.injEq, and_true, true_and] at h'
  obtain ⟨rfl, rfl⟩ := h'
  have hms : m * R.sz ≤ l.length * R.sz := Nat.mul_le_mul_right _ hm
  have hl : (l.take m).length = m := by rw [List.length_take]; omega
  refine ⟨xs.take (m * R.sz), ?_, fun k x hk => ?_⟩
  · rw [hl]
    refine ⟨by rw [List.length_take, ho.1]; omega, .inr ⟨g, cap, cur, rfl, hb, hg, by omega, hcm, hcs, ?_⟩⟩
    rw [← htake, List.take_take, Nat.min_eq_left hms]
  · have hkm : k < m := by have := (List.getElem?_eq_some_iff.1 hk).1; omega
    rw [List.getElem?_take, if_pos hkm] at hk
    have e1 : (k + 1) * R.sz ≤ m * R.sz := Nat.mul_le_mul_right _ hkm
    rw [Nat.succ_mul] at e1
    have e2 : ((xs.take (m * R.sz)).drop (k * R.sz)).take R.sz = (xs.drop (k * R.sz)).take R.sz := by
      rw [List.drop_take, List.take_take, Nat.min_eq_left (by omega)]
    rw [e2]
    exact hC k x hk
theorem Rd.Own.keep2 {R : Rd α} {F : Nat → Prop} {B : Nat} {e : TypeId} {w w' : World} {v : Value} {l : List α} (h : R.Own F B e w v l) (k : Keep (Fv F v) w w') (hk : ∀ g, v.ownBlock = some g → w'.heap[g]? = w.heap[g]?) : R.Own F B e w' v l := by
  obtain ⟨xs, ho, hC⟩ := h
  refine ⟨xs, ⟨ho.1, ?_⟩, fun j x hj => R.keep k (hC j x hj)⟩
  rcases ho.2 with h1 | ⟨g, cap, cur, rfl, hb, hg, rest⟩
  · exact .inl h1
  · exact .inr ⟨g, cap, cur, rfl, hb, (hk g rfl).trans hg, rest⟩
/-- What was turned lies in F, or is new. -/
theorem Keep.newB {F G : Nat → Prop} {a b c : World} (h : Keep F a b) (k : Keep G b c) (hG : ∀ i, G i → F i ∨ a.heap.size ≤ i) : Keep F a c :=
  ((h.mono (G := fun i => F i ∨ a.heap.size ≤ i) (fun _ _ q => .inl q)).trans (k.mono (fun i _ q => hG i q))).mono (fun i hi q => q.elim id (fun e => absurd hi (by omega)))
/-- 'l[:m]' of what is owned. -/
theorem own_pre {P : Program} {t e : TypeId} {sz bytes : Nat} (hE : El P t e sz bytes) (g n cap m : Nat) (hm : m ≤ n) (hn : n ≤ cap) (kh : IntKind) (W : World) : (Instr.slice t (.slice (some ⟨g, 0, none⟩) n cap) none (some (.int kh m)) none).run P W = .ok (.slice (some ⟨g, 0, none⟩) m cap) W := by
  obtain ⟨hu, i', z, hi, hz, hsz, hb, hzs, hp⟩ := hE
  have hel : P.elem t = e := by unfold Program.elem; rw [hu]
  rw [run_slice_h W t (some ⟨g, 0, none⟩) n cap (by rw [hel]; exact hu) kh m (by omega) (by omega)]
  simp [hel, sizeOf, typeInfo, hi, hsz, sliced]
  intro _; rfl
end KB
namespace K91
open Go Go.RowKit KB K1 K88 K89 K90
set_option linter.unusedVariables false
set_option linter.unusedSimpArgs false
set_option maxHeartbeats 1000000
set_option maxRecDepth 100000
abbrev finalB : ByteArray := ⟨#[102, 105, 110, 97, 108]⟩
theorem words_keep {F G : Nat → Prop} {w w' : World} {b : Nat} {l : List ByteArray} (h : WordsAt F w b l) (k : Keep G w w') (hG : ∀ i, G i → F i) (hb : ¬ G b) : WordsAt F w' b l := by
  obtain ⟨A, c, h1, h2, h3⟩ := h
  exact ⟨A, c, k.blk hb h1, h2, h3.keep (k.mono (fun i _ q => .inl (hG i q)))⟩
theorem words_ext {F : Nat → Prop} {w w' : World} {b : Nat} {l : List ByteArray} (h : WordsAt F w b l) (k : Ext w w') : WordsAt F w' b l := words_keep h (k.keep (fun _ => False)) (fun _ q => q.elim) (fun q => q)
theorem words_lt {F : Nat → Prop} {w : World} {b : Nat} {l : List ByteArray} (h : WordsAt F w b l) : b < w.heap.size := by obtain ⟨A, c, h1, _⟩ := h; exact blk_lt h1
theorem words_narrow {F G : Nat → Prop} {w : World} {b : Nat} {l : List ByteArray} (h : WordsAt F w b l) (hG : ∀ i, i < w.heap.size → G i → F i) : WordsAt G w b l := by
  obtain ⟨A, c, h1, h2, h3⟩ := h
  exact ⟨A, c, h1, fun q => h2 (hG _ (blk_lt h1) q), h3.narrow (by decide) (fun i hi q => q.elim (fun q => .inl (hG i hi q)) .inr)⟩
abbrev qCells (fin : Bool) : Array Value := #[.bool false, .bool false, .slice none 0 0, .slice none 0 0, .bool fin, .slice none 0 0, .slice none 0 0]
theorem queryFC (F : Nat → Prop) (b : Nat) (w : World) (h : WordsAt F w b [finalB]) (v0 : Value) (n1 n2 n3 : Int) :
    Calls Tryz.prog 193 #[.pointer (some ⟨b, 0, none⟩), .agg #[v0, .int .i64 n1, .int .i64 n2, .int .i64 n3]] w fun e w' => e = .returned (.agg (qCells true)) ∧ WordsAt F w' b [] ∧ Keep (fun k => k = b) w w' := by
  have hl := words_lt h
  have hw0 := words_narrow (G := fun i => F i ∨ w.heap.size ≤ i) h (fun i hi q => q.elim id (fun q => by omega))
  have HI := As.mk (fun W (hW : Ext w W) => isC _ b finalB [] W (words_ext hw0 hW) (by decide))
  have HN := As.mk (fun (W : World) (s : ByteArray) (hW : WordsAt (fun i => F i ∨ w.heap.size ≤ i) W b []) => isntC _ b s [] W hW (by simp) (by decide))
  have hE3 := (((Ext.refl w).alloc (.cells #[v0, .int .i64 n1, .int .i64 n2, .int .i64 n3] 27)).alloc (.cells (qCells false) 75)).alloc (.cells (qCells false) 75)
  have hR := blk_new (w.alloc (.cells #[v0, .int .i64 n1, .int .i64 n2, .int .i64 n3] 27)) (.cells (qCells false) 75)
  replace hR := ((Ext.refl _).alloc (.cells (qCells false) 75)).blk hR
  have hQ := blk_new ((w.alloc (.cells #[v0, .int .i64 n1, .int .i64 n2, .int .i64 n3] 27)).alloc (.cells (qCells false) 75)) (.cells (qCells false) 75)
  simp only [World.size_alloc] at hR hQ
  clear h hw0
  go_enter Tryz.func193, Tryz.ntmps193
  go_wp2_with (fail)
  refine (HI.out _ hE3).mono ?_; rintro e w4 ⟨rfl, hw4, k4⟩
  have hR4 := k4.blk (by omega) hR
  have hQ4 := k4.blk (by omega) hQ
  have K4 := (Keep.pre k4 hE3).mono (G := fun i => i = b) (fun _ _ q => q)
  have hS4 := k4.size
  clear k4 hR hQ hE3
  (have p0 := blk_cell (hQ4) 0; have pf0 := blk_froz (hQ4) 0; have p1 := blk_cell (hQ4) 1; have pf1 := blk_froz (hQ4) 1; have p2 := blk_cell (hQ4) 2; have pf2 := blk_froz (hQ4) 2; have p3 := blk_cell (hQ4) 3; have pf3 := blk_froz (hQ4) 3; have p4 := blk_cell (hQ4) 4; have pf4 := blk_froz (hQ4) 4; have p5 := blk_cell (hQ4) 5; have pf5 := blk_froz (hQ4) 5; have p6 := blk_cell (hQ4) 6; have pf6 := blk_froz (hQ4) 6)
  go_wp2_with (fail)
  have hS5 := keep_set1 w4 (w.heap.size + 1 + 1) 4 (.bool true)
  have hQ5 := blk_set hQ4 4 (.bool true)
  have hR5 := hS5.blk (by omega) hR4
  have hw5 := words_keep hw4 hS5 (fun i q => .inr (by omega)) (by omega)
  have K5 := K4.newB hS5 (fun j q => .inr (by omega))
  clear p0 pf0 p1 pf1 p2 pf2 p3 pf3 p4 pf4 p5 pf5 p6 pf6
  clear hQ4 hR4 hw4 K4 hS5
  generalize w4.setCell ⟨w.heap.size + 1 + 1, 4, none⟩ (.bool true) = w5 at *
  (have p0 := blk_cell (hQ5) 0; have pf0 := blk_froz (hQ5) 0; have p1 := blk_cell (hQ5) 1; have pf1 := blk_froz (hQ5) 1; have p2 := blk_cell (hQ5) 2; have pf2 := blk_froz (hQ5) 2; have p3 := blk_cell (hQ5) 3; have pf3 := blk_froz (hQ5) 3; have p4 := blk_cell (hQ5) 4; have pf4 := blk_froz (hQ5) 4; have p5 := blk_cell (hQ5) 5; have pf5 := blk_froz (hQ5) 5; have p6 := blk_cell (hQ5) 6; have pf6 := blk_froz (hQ5) 6)
  obtain ⟨A5, c5, hb5, -⟩ := id hw5
  (have q0 := blk_cell (hb5) 0; have qf0 := blk_froz (hb5) 0; have q1 := blk_cell (hb5) 1; have qf1 := blk_froz (hb5) 1)
  go_wp2_with (fail)
  refine (HN.out w5 _ hw5).mono ?_; rintro e w6 ⟨rfl, hE6⟩
  have hQ6 := hE6.blk hQ5
  have hR6 := hE6.blk hR5
  have hw6 := words_ext hw5 hE6
  have K6 := K5.post hE6
  clear p0 pf0 p1 pf1 p2 pf2 p3 pf3 p4 pf4 p5 pf5 p6 pf6
  clear hQ5 hR5 hw5 K5 hE6 q0 q1 qf0 qf1 hb5
  (have p0 := blk_cell (hQ6) 0; have pf0 := blk_froz (hQ6) 0; have p1 := blk_cell (hQ6) 1; have pf1 := blk_froz (hQ6) 1; have p2 := blk_cell (hQ6) 2; have pf2 := blk_froz (hQ6) 2; have p3 := blk_cell (hQ6) 3; have pf3 := blk_froz (hQ6) 3; have p4 := blk_cell (hQ6) 4; have pf4 := blk_froz (hQ6) 4; have p5 := blk_cell (hQ6) 5; have pf5 := blk_froz (hQ6) 5; have p6 := blk_cell (hQ6) 6; have pf6 := blk_froz (hQ6) 6)
  obtain ⟨A6, c6, hb6, -⟩ := id hw6
  (have q0 := blk_cell (hb6) 0; have qf0 := blk_froz (hb6) 0; have q1 := blk_cell (hb6) 1; have qf1 := blk_froz (hb6) 1)
  go_wp2_with (fail)
  have hS7 := keep_set1 w6 (w.heap.size + 1 + 1) 0 (.bool false)
  have hQ7 := blk_set hQ6 0 (.bool false)
  have hR7 := hS7.blk (by omega) hR6
  have hw7 := words_keep hw6 hS7 (fun i q => .inr (by omega)) (by omega)
  have K7 := K6.newB hS7 (fun j q => .inr (by omega))
  clear p0 pf0 p1 pf1 p2 pf2 p3 pf3 p4 pf4 p5 pf5 p6 pf6
  clear hQ6 hR6 hw6 K6 hS7 q0 q1 qf0 qf1 hb6
  generalize w6.setCell ⟨w.heap.size + 1 + 1, 0, none⟩ (.bool false) = w7 at *
  (have p0 := blk_cell (hQ7) 0; have pf0 := blk_froz (hQ7) 0; have p1 := blk_cell (hQ7) 1; have pf1 := blk_froz (hQ7) 1; have p2 := blk_cell (hQ7) 2; have pf2 := blk_froz (hQ7) 2; have p3 := blk_cell (hQ7) 3; have pf3 := blk_froz (hQ7) 3; have p4 := blk_cell (hQ7) 4; have pf4 := blk_froz (hQ7) 4; have p5 := blk_cell (hQ7) 5; have pf5 := blk_froz (hQ7) 5; have p6 := blk_cell (hQ7) 6; have pf6 := blk_froz (hQ7) 6)
  obtain ⟨A7, c7, hb7, -⟩ := id hw7
  (have q0 := blk_cell (hb7) 0; have qf0 := blk_froz (hb7) 0; have q1 := blk_cell (hb7) 1; have qf1 := blk_froz (hb7) 1)
  go_wp2_with (fail)
  refine (HN.out w7 _ hw7).mono ?_; rintro e w8 ⟨rfl, hE8⟩
  have hQ8 := hE8.blk hQ7
  have hR8 := hE8.blk hR7
  have hw8 := words_ext hw7 hE8
  have K8 := K7.post hE8
  clear p0 pf0 p1 pf1 p2 pf2 p3 pf3 p4 pf4 p5 pf5 p6 pf6
  clear hQ7 hR7 hw7 K7 hE8 q0 q1 qf0 qf1 hb7
  (have p0 := blk_cell (hQ8) 0; have pf0 := blk_froz (hQ8) 0; have p1 := blk_cell (hQ8) 1; have pf1 := blk_froz (hQ8) 1; have p2 := blk_cell (hQ8) 2; have pf2 := blk_froz (hQ8) 2; have p3 := blk_cell (hQ8) 3; have pf3 := blk_froz (hQ8) 3; have p4 := blk_cell (hQ8) 4; have pf4 := blk_froz (hQ8) 4; have p5 := blk_cell (hQ8) 5; have pf5 := blk_froz (hQ8) 5; have p6 := blk_cell (hQ8) 6; have pf6 := blk_froz (hQ8) 6)
  obtain ⟨A8, c8, hb8, -⟩ := id hw8
  (have q0 := blk_cell (hb8) 0; have qf0 := blk_froz (hb8) 0; have q1 := blk_cell (hb8) 1; have qf1 := blk_froz (hb8) 1)
  go_wp2_with (fail)
  have hS9 := keep_set1 w8 (w.heap.size + 1 + 1) 1 (.bool false)
  have hQ9 := blk_set hQ8 1 (.bool false)
  have hR9 := hS9.blk (by omega) hR8
  have hw9 := words_keep hw8 hS9 (fun i q => .inr (by omega)) (by omega)
  have K9 := K8.newB hS9 (fun j q => .inr (by omega))
  clear p0 pf0 p1 pf1 p2 pf2 p3 pf3 p4 pf4 p5 pf5 p6 pf6
  clear hQ8 hR8 hw8 K8 hS9 q0 q1 qf0 qf1 hb8
  generalize w8.setCell ⟨w.heap.size + 1 + 1, 1, none⟩ (.bool false) = w9 at *
  (have p0 := blk_cell (hQ9) 0; have pf0 := blk_froz (hQ9) 0; have p1 := blk_cell (hQ9) 1; have pf1 := blk_froz (hQ9) 1; have p2 := blk_cell (hQ9) 2; have pf2 := blk_froz (hQ9) 2; have p3 := blk_cell (hQ9) 3; have pf3 := blk_froz (hQ9) 3; have p4 := blk_cell (hQ9) 4; have pf4 := blk_froz (hQ9) 4; have p5 := blk_cell (hQ9) 5; have pf5 := blk_froz (hQ9) 5; have p6 := blk_cell (hQ9) 6; have pf6 := blk_froz (hQ9) 6)
  obtain ⟨A9, c9, hb9, -⟩ := id hw9
  (have q0 := blk_cell (hb9) 0; have qf0 := blk_froz (hb9) 0; have q1 := blk_cell (hb9) 1; have qf1 := blk_froz (hb9) 1)
  go_wp2_with (fail)
  refine wp_loop_rounds 1 ?_
  rw [rounds_succ]
  go_wp2_with (fail)
  refine (HN.out w9 _ hw9).mono ?_; rintro e w10 ⟨rfl, hE10⟩
  have hQ10 := hE10.blk hQ9
  have hR10 := hE10.blk hR9
  have hw10 := words_ext hw9 hE10
  have K10 := K9.post hE10
  clear p0 pf0 p1 pf1 p2 pf2 p3 pf3 p4 pf4 p5 pf5 p6 pf6
  clear hQ9 hR9 hw9 K9 hE10 q0 q1 qf0 qf1 hb9
  (have p0 := blk_cell (hQ10) 0; have pf0 := blk_froz (hQ10) 0; have p1 := blk_cell (hQ10) 1; have pf1 := blk_froz (hQ10) 1; have p2 := blk_cell (hQ10) 2; have pf2 := blk_froz (hQ10) 2; have p3 := blk_cell (hQ10) 3; have pf3 := blk_froz (hQ10) 3; have p4 := blk_cell (hQ10) 4; have pf4 := blk_froz (hQ10) 4; have p5 := blk_cell (hQ10) 5; have pf5 := blk_froz (hQ10) 5; have p6 := blk_cell (hQ10) 6; have pf6 := blk_froz (hQ10) 6)
  obtain ⟨A10, c10, hb10, -⟩ := id hw10
  (have q0 := blk_cell (hb10) 0; have qf0 := blk_froz (hb10) 0; have q1 := blk_cell (hb10) 1; have qf1 := blk_froz (hb10) 1)
  go_wp2_with (fail)
  refine wp_loop_rounds 1 ?_
  rw [rounds_succ]
  have P := put7 hR10 (.bool false) (.bool false) (.slice none 0 0) (.slice none 0 0) (.bool true) (.slice none 0 0) (.slice none 0 0)
  (have r0 := blk_cell (hR10) 0; have rf0 := blk_froz (hR10) 0; have r1 := blk_cell (hR10) 1; have rf1 := blk_froz (hR10) 1; have r2 := blk_cell (hR10) 2; have rf2 := blk_froz (hR10) 2; have r3 := blk_cell (hR10) 3; have rf3 := blk_froz (hR10) 3; have r4 := blk_cell (hR10) 4; have rf4 := blk_froz (hR10) 4; have r5 := blk_cell (hR10) 5; have rf5 := blk_froz (hR10) 5; have r6 := blk_cell (hR10) 6; have rf6 := blk_froz (hR10) 6)
  go_wp2_with (fail)
  have hwf := words_keep hw10 P.2 (fun i q => .inr (by omega)) (by omega)
  have KF := K10.newB P.2 (fun j q => .inr (by omega))
  have e0 := blk_cell P.1 0
  have e1 := blk_cell P.1 1
  have e2 := blk_cell P.1 2
  have e3 := blk_cell P.1 3
  have e4 := blk_cell P.1 4
  have e5 := blk_cell P.1 5
  have e6 := blk_cell P.1 6
  refine bodyPost_ret (v := .agg (qCells true)) (by simp [results, Tryz.results193, go_sem, e0, e1, e2, e3, e4, e5, e6]) rfl ?_
  exact ⟨rfl, words_narrow hwf (fun i _ q => .inl q), KF⟩
end K91
end Go.Proofs.YtbjeejimedhniaaGreatDoor
namespace Go.Proofs
open Go.Shelf
def Tryz.lays156_ren : Go.Shelf.Ren := ⟨fun | 156 => 195 | 165 => 278 | 166 => 46 | 169 => 48 | 240 => 106 | 241 => 337 | 276 => 187 | 277 => 367 | n => n, fun | 31 => 126 | 9 => 9 | 3 => 3 | 4 => 4 | 0 => 0 | 20 => 20 | 72 => 122 | 76 => 130 | 70 => 119 | 37 => 120 | 75 => 129 | 127 => 191 | 164 => 262 | 5 => 5 | 80 => 133 | n => n, fun | n => n⟩
theorem Tryz.lays156 : Go.Proofs.Lays.n156 Tryz.prog Tryz.lays156_ren := {
  mixed := by kernel_rfl
  f156 := Tryz.func195.trans (congrArg some (by kernel_rfl))
  f165 := Tryz.func278.trans (congrArg some (by kernel_rfl))
  f166 := Tryz.func46.trans (congrArg some (by kernel_rfl))
  f169 := Tryz.func48.trans (congrArg some (by kernel_rfl))
  f240 := Tryz.func106.trans (congrArg some (by kernel_rfl))
  f241 := Tryz.func337.trans (congrArg some (by kernel_rfl))
  f276 := Tryz.func187.trans (congrArg some (by kernel_rfl))
  f277 := Tryz.func367.trans (congrArg some (by kernel_rfl))
  t0 := Tryz.underlying0
  a0 := Tryz.isAgg0
  z0 := Tryz.sizeOf0
  v0 := Tryz.zeroValue0
  t3 := Tryz.underlying3
  a3 := Tryz.isAgg3
  z3 := Tryz.sizeOf3
  v3 := Tryz.zeroValue3
  t4 := Tryz.underlying4
  a4 := Tryz.isAgg4
  z4 := Tryz.sizeOf4
  v4 := Tryz.zeroValue4
  t9 := Tryz.underlying9
  a9 := Tryz.isAgg9
  z9 := Tryz.sizeOf9
  v9 := Tryz.zeroValue9
  t20 := Tryz.underlying20
  a20 := Tryz.isAgg20
  z20 := Tryz.sizeOf20
  v20 := Tryz.zeroValue20
  t31 := Tryz.underlying126
  a31 := Tryz.isAgg126
  z31 := Tryz.sizeOf126
  v31 := Tryz.zeroValue126
  t37 := Tryz.underlying120
  a37 := Tryz.isAgg120
  z37 := Tryz.sizeOf120
  v37 := Tryz.zeroValue120
  t70 := Tryz.underlying119
  a70 := Tryz.isAgg119
  z70 := Tryz.sizeOf119
  v70 := Tryz.zeroValue119
  t72 := Tryz.underlying122
  a72 := Tryz.isAgg122
  z72 := Tryz.sizeOf122
  v72 := Tryz.zeroValue122
  t75 := Tryz.underlying129
  a75 := Tryz.isAgg129
  z75 := Tryz.sizeOf129
  v75 := Tryz.zeroValue129
  t76 := Tryz.underlying130
  a76 := Tryz.isAgg130
  z76 := Tryz.sizeOf130
  v76 := Tryz.zeroValue130
  t127 := Tryz.underlying191
  a127 := Tryz.isAgg191
  z127 := Tryz.sizeOf191
  v127 := Tryz.zeroValue191
  t164 := Tryz.underlying262
  a164 := Tryz.isAgg262
  z164 := Tryz.sizeOf262
  v164 := Tryz.zeroValue262 }
theorem Tryz.Builder_Extra_156 : Builder.Extra Tryz.prog Tryz.lays156_ren := {
  sizeBuilder := by kernel_rfl
  liesBuilder := by kernel_rfl
  t5 := Tryz.underlying5
  a5 := Tryz.isAgg5
  z5 := Tryz.sizeOf5
  v5 := Tryz.zeroValue5
  infoByte := by kernel_rfl
  cellsByte := by kernel_rfl
  sizeByte := by kernel_rfl
  neB5 := by decide }
open Go.RowKit in
theorem Tryz.strings_Join_none (a : Option Addr) (c : Nat) (sep : ByteArray) (w : World) :
    Calls Tryz.prog 195 #[.slice a 0 c, .string sep] w fun e w' => e = .returned (.string ⟨#[]⟩) ∧ w' = w := Any.strings_Join_none Tryz.lays156 Tryz.Builder_Extra_156 a c sep w
open Go.RowKit in
theorem Tryz.strings_Join (bk o c : Nat) (xs : List ByteArray) (sep : ByteArray) (w : World) (hcells : ∀ (j : Nat) x, xs[j]? = some x → w.cell? ⟨bk, o + j, none⟩ = some (.string x)) (hbk : bk < w.heap.size) (hN : xs.length ≤ 140737488355328) (hcap : xs.length ≤ c) (hlen : (Lib.join (xs.map (·.data.toList)) sep.data.toList).length ≤ 140737488355328) :
    Calls Tryz.prog 195 #[.slice (some ⟨bk, o, none⟩) xs.length c, .string sep] w fun e w' => e = .returned (.string ⟨(Lib.join (xs.map (·.data.toList)) sep.data.toList).toArray⟩) ∧ Below w.heap.size w w' := Any.strings_Join Tryz.lays156 Tryz.Builder_Extra_156 bk o c xs sep w hcells hbk hN hcap hlen
def Tryz.lays173_ren : Go.Shelf.Ren := ⟨fun | 173 => 334 | 246 => 305 | 283 => 342 | 284 => 343 | 285 => 344 | 286 => 345 | 129 => 318 | 317 => 368 | 318 => 369 | 319 => 370 | 320 => 371 | 337 => 399 | 338 => 400 | n => n, fun | 2 => 2 | 3 => 3 | 9 => 9 | 4 => 4 | 171 => 402 | 0 => 0 | 53 => 115 | 37 => 120 | 5 => 5 | 173 => 404 | 212 => 427 | 51 => 23 | 20 => 20 | 213 => 428 | 46 => 347 | 232 => 470 | 233 => 471 | n => n, fun | 17 => 3 | 18 => 6 | 19 => 7 | n => n⟩
theorem Tryz.lays173 : Go.Proofs.Lays.n173 Tryz.prog Tryz.lays173_ren := {
  mixed := by kernel_rfl
  f129 := Tryz.func318.trans (congrArg some (by kernel_rfl))
  f173 := Tryz.func334.trans (congrArg some (by kernel_rfl))
  f246 := Tryz.func305.trans (congrArg some (by kernel_rfl))
  f283 := Tryz.func342.trans (congrArg some (by kernel_rfl))
  f284 := Tryz.func343.trans (congrArg some (by kernel_rfl))
  f285 := Tryz.func344.trans (congrArg some (by kernel_rfl))
  f286 := Tryz.func345.trans (congrArg some (by kernel_rfl))
  f317 := Tryz.func368.trans (congrArg some (by kernel_rfl))
  f318 := Tryz.func369.trans (congrArg some (by kernel_rfl))
  f319 := Tryz.func370.trans (congrArg some (by kernel_rfl))
  f320 := Tryz.func371.trans (congrArg some (by kernel_rfl))
  f337 := Tryz.func399.trans (congrArg some (by kernel_rfl))
  f338 := Tryz.func400.trans (congrArg some (by kernel_rfl))
  t0 := Tryz.underlying0
  a0 := Tryz.isAgg0
  z0 := Tryz.sizeOf0
  v0 := Tryz.zeroValue0
  t2 := Tryz.underlying2
  a2 := Tryz.isAgg2
  z2 := Tryz.sizeOf2
  v2 := Tryz.zeroValue2
  t3 := Tryz.underlying3
  a3 := Tryz.isAgg3
  z3 := Tryz.sizeOf3
  v3 := Tryz.zeroValue3
  t4 := Tryz.underlying4
  a4 := Tryz.isAgg4
  z4 := Tryz.sizeOf4
  v4 := Tryz.zeroValue4
  t5 := Tryz.underlying5
  a5 := Tryz.isAgg5
  z5 := Tryz.sizeOf5
  v5 := Tryz.zeroValue5
  t9 := Tryz.underlying9
  a9 := Tryz.isAgg9
  z9 := Tryz.sizeOf9
  v9 := Tryz.zeroValue9
  t20 := Tryz.underlying20
  a20 := Tryz.isAgg20
  z20 := Tryz.sizeOf20
  v20 := Tryz.zeroValue20
  t37 := Tryz.underlying120
  a37 := Tryz.isAgg120
  z37 := Tryz.sizeOf120
  v37 := Tryz.zeroValue120
  t46 := Tryz.underlying347
  a46 := Tryz.isAgg347
  z46 := Tryz.sizeOf347
  v46 := Tryz.zeroValue347
  t51 := Tryz.underlying23
  a51 := Tryz.isAgg23
  z51 := Tryz.sizeOf23
  v51 := Tryz.zeroValue23
  t53 := Tryz.underlying115
  a53 := Tryz.isAgg115
  z53 := Tryz.sizeOf115
  v53 := Tryz.zeroValue115
  t171 := Tryz.underlying402
  a171 := Tryz.isAgg402
  z171 := Tryz.sizeOf402
  v171 := Tryz.zeroValue402
  t173 := Tryz.underlying404
  a173 := Tryz.isAgg404
  z173 := Tryz.sizeOf404
  v173 := Tryz.zeroValue404
  t212 := Tryz.underlying427
  a212 := Tryz.isAgg427
  z212 := Tryz.sizeOf427
  v212 := Tryz.zeroValue427
  t213 := Tryz.underlying428
  a213 := Tryz.isAgg428
  z213 := Tryz.sizeOf428
  t232 := Tryz.underlying470
  a232 := Tryz.isAgg470
  z232 := Tryz.sizeOf470
  v232 := Tryz.zeroValue470
  t233 := Tryz.underlying471
  a233 := Tryz.isAgg471
  z233 := Tryz.sizeOf471
  v233 := Tryz.zeroValue471
  g17 := by kernel_rfl
  g18 := by kernel_rfl
  g19 := by kernel_rfl }
open Go.RowKit Go.Sort Go.Lib in
theorem Tryz.strconv_FormatInt_10_small (i : Nat) (hi : i < 100) (w : World) :
    Calls Tryz.prog 334 #[.int .i64 i, .int .i64 10] w fun e w' => e = .returned (.string ⟨(Lib.decDigits i).toArray⟩) ∧ w' = w := Any.strconv_FormatInt_10_small Tryz.lays173 i hi w
def Tryz.laysM173_ren : Go.Shelf.Ren := ⟨fun | 173 => 334 | 246 => 305 | 283 => 342 | 284 => 343 | 285 => 344 | 286 => 345 | 129 => 318 | 317 => 368 | 318 => 369 | 319 => 370 | 320 => 371 | 337 => 399 | 338 => 400 | n => n, fun | 2 => 2 | 3 => 3 | 9 => 9 | 4 => 4 | 171 => 402 | 0 => 0 | 53 => 115 | 37 => 120 | 5 => 5 | 173 => 404 | 212 => 427 | 51 => 23 | 20 => 20 | 213 => 428 | 46 => 347 | 232 => 470 | 233 => 471 | n => n, fun | 17 => 3 | 18 => 6 | 19 => 7 | n => n⟩
theorem Tryz.laysM173 : Go.Proofs.LaysM.n173 Tryz.prog Tryz.laysM173_ren := {
  mixed := by kernel_rfl
  f129 := Tryz.func318.trans (congrArg some (by kernel_rfl))
  f173 := Tryz.func334.trans (congrArg some (by kernel_rfl))
  f246 := Tryz.func305.trans (congrArg some (by kernel_rfl))
  f283 := Tryz.func342.trans (congrArg some (by kernel_rfl))
  f284 := Tryz.func343.trans (congrArg some (by kernel_rfl))
  f285 := Tryz.func344.trans (congrArg some (by kernel_rfl))
  f286 := Tryz.func345.trans (congrArg some (by kernel_rfl))
  f317 := Tryz.func368.trans (congrArg some (by kernel_rfl))
  f318 := Tryz.func369.trans (congrArg some (by kernel_rfl))
  f319 := Tryz.func370.trans (congrArg some (by kernel_rfl))
  f320 := Tryz.func371.trans (congrArg some (by kernel_rfl))
  f337 := Tryz.func399.trans (congrArg some (by kernel_rfl))
  f338 := Tryz.func400.trans (congrArg some (by kernel_rfl))
  t0 := Tryz.underlying0
  a0 := Tryz.isAgg0
  z0 := Tryz.sizeOf0
  v0 := Tryz.zeroValue0
  t2 := Tryz.underlying2
  a2 := Tryz.isAgg2
  z2 := Tryz.sizeOf2
  v2 := Tryz.zeroValue2
  t3 := Tryz.underlying3
  a3 := Tryz.isAgg3
  z3 := Tryz.sizeOf3
  v3 := Tryz.zeroValue3
  t4 := Tryz.underlying4
  a4 := Tryz.isAgg4
  z4 := Tryz.sizeOf4
  v4 := Tryz.zeroValue4
  t5 := Tryz.underlying5
  a5 := Tryz.isAgg5
  z5 := Tryz.sizeOf5
  v5 := Tryz.zeroValue5
  t9 := Tryz.underlying9
  a9 := Tryz.isAgg9
  z9 := Tryz.sizeOf9
  v9 := Tryz.zeroValue9
  t20 := Tryz.underlying20
  a20 := Tryz.isAgg20
  z20 := Tryz.sizeOf20
  v20 := Tryz.zeroValue20
  t37 := Tryz.underlying120
  a37 := Tryz.isAgg120
  z37 := Tryz.sizeOf120
  v37 := Tryz.zeroValue120
  t46 := Tryz.underlying347
  a46 := Tryz.isAgg347
  z46 := Tryz.sizeOf347
  v46 := Tryz.zeroValue347
  t51 := Tryz.underlying23
  a51 := Tryz.isAgg23
  z51 := Tryz.sizeOf23
  v51 := Tryz.zeroValue23
  t53 := Tryz.underlying115
  a53 := Tryz.isAgg115
  z53 := Tryz.sizeOf115
  v53 := Tryz.zeroValue115
  t171 := Tryz.underlying402
  a171 := Tryz.isAgg402
  z171 := Tryz.sizeOf402
  v171 := Tryz.zeroValue402
  t173 := Tryz.underlying404
  a173 := Tryz.isAgg404
  z173 := Tryz.sizeOf404
  v173 := Tryz.zeroValue404
  t212 := Tryz.underlying427
  a212 := Tryz.isAgg427
  z212 := Tryz.sizeOf427
  v212 := Tryz.zeroValue427
  t213 := Tryz.underlying428
  a213 := Tryz.isAgg428
  z213 := Tryz.sizeOf428
  t232 := Tryz.underlying470
  a232 := Tryz.isAgg470
  z232 := Tryz.sizeOf470
  v232 := Tryz.zeroValue470
  t233 := Tryz.underlying471
  a233 := Tryz.isAgg471
  z233 := Tryz.sizeOf471
  v233 := Tryz.zeroValue471
  g17 := by kernel_rfl
  g18 := by kernel_rfl
  g19 := by kernel_rfl
  i0 := by kernel_rfl
  i2 := by kernel_rfl
  i3 := by kernel_rfl
  i4 := by kernel_rfl
  i5 := by kernel_rfl
  i9 := by kernel_rfl
  i20 := by kernel_rfl
  i37 := by kernel_rfl
  i46 := by kernel_rfl
  i51 := by kernel_rfl
  i53 := by kernel_rfl
  i171 := by kernel_rfl
  i173 := by kernel_rfl
  i212 := by kernel_rfl
  i232 := by kernel_rfl
  i233 := by kernel_rfl
  m17 := by kernel_rfl
  m18 := by kernel_rfl
  m19 := by kernel_rfl }
open Go.RowKit Go.Sort Go.Lib in
theorem Tryz.strconv_FormatInt_10 (n : Int) (h0 : -9223372036854775808 ≤ n) (h1 : n ≤ 9223372036854775807) (w : World) (htab : Lib.TabIs Tryz.prog w "internal/strconv.uint64pow10" .u64 Lib.pow10Tab) :
    Calls Tryz.prog 334 #[.int .i64 n, .int .i64 10] w fun e w' => e = .returned (.string ⟨(Lib.itoa n).toArray⟩) ∧ ∃ k os, w' = grow (w.drewN k) os := Any.strconv_FormatInt_10 Tryz.laysM173 n h0 h1 w htab
end Go.Proofs
namespace Go.Proofs.YtbjeejimedhniaaGreatDoor
namespace K92
open Go Go.RowKit KB K1 K2 K88 K89
set_option linter.unusedVariables false
set_option linter.unusedSimpArgs false
set_option maxHeartbeats 1000000
set_option maxRecDepth 100000
def joinL (l : List ByteArray) (sep : ByteArray) : List UInt8 := Lib.join (l.map (·.data.toList)) sep.data.toList
theorem joinC (F : Nat → Prop) (A : Option Addr) (c : Nat) (l : List ByteArray) (sep : ByteArray) (w : World) (h : rdStr.Sl F w A c l) (hn : l.length ≤ 1000000) (hlen : (joinL l sep).length ≤ 1000000000) :
    Calls Tryz.prog 195 #[.slice A l.length c, .string sep] w fun e w' => e = .returned (.string (BA (joinL l sep))) ∧ Ext w w' := by
  cases hl : l with
  | nil =>
    refine (Tryz.strings_Join_none A c sep w).mono ?_
    rintro e w' ⟨rfl, rfl⟩
    exact ⟨rfl, Ext.refl _⟩
  | cons x l' =>
    rw [← hl]
    obtain ⟨b, o, rfl, hc⟩ := str_get h (k := 0) (by rw [hl]; simp)
    refine (Tryz.strings_Join b o c l sep w (fun j y hj => ?_) ?_ (by omega) h.le (Nat.le_trans hlen (by omega))).mono ?_
    · have hjl := (List.getElem?_eq_some_iff.1 hj).1
      obtain ⟨b', o', e, hc'⟩ := str_get h hjl
      cases e
      rw [hc', (List.getElem?_eq_some_iff.1 hj).2]
    · exact World.block_lt_of_cell? w _ hc
    · rintro e w' ⟨rfl, hE⟩
      exact ⟨rfl, hE⟩
/-- The words of a row. -/
def SaysR (w : World) (ts : List Int) (r : Row) (ss : List ByteArray) : Prop := ss.length = ts.length ∧ r.length = ts.length ∧ ∀ k (h : k < ts.length) (h1 : k < r.length) (h2 : k < ss.length), (r[k]).2 = emp ∧ Says w ts[k] ss[k] (r[k]).1
theorem SaysR.ext {w w' : World} {ts : List Int} {r : Row} {ss : List ByteArray} (h : SaysR w ts r ss) (k : Ext w w') : SaysR w' ts r ss := ⟨h.1, h.2.1, fun i a b c => ⟨(h.2.2 i a b c).1, (h.2.2 i a b c).2.ext k⟩⟩
theorem rowC (F : Nat → Prop) (db : Nat) (v0 v1 v3 v4 v5 : Value) (At : Option Addr) (ct : Nat) (ts : List Int) (w : World) (hb : w.heap[db]? = some (.cells #[v0, v1, .slice At ts.length ct, v3, v4, v5] 118 (0, 0)))
    (ht : (rdInt .i64).Sl F w At ct ts) (Ar : Option Addr) (cr : Nat) (r : Row) (hr : rdVal.Sl F w Ar cr r) (ss : List ByteArray) (h : SaysR w ts r ss) (hn : ts.length ≤ 1000) (hlen : (joinL ss ⟨#[32]⟩).length ≤ 1000000000) (hF : ∀ k, F k → k < w.heap.size) :
    Calls Tryz.prog 196 #[.pointer (some ⟨db, 0, none⟩), .slice Ar r.length cr] w fun e w' => e = .returned (.string (BA (joinL ss ⟨#[32]⟩))) ∧ Ext w w' := by
  have HS := As.mk h
  have H1 := As.mk h.1
  have H2 := As.mk h.2.1
  clear h
  (have p0 := blk_cell (hb) 0; have p1 := blk_cell (hb) 1; have p2 := blk_cell (hb) 2; have p3 := blk_cell (hb) 3; have p4 := blk_cell (hb) 4; have p5 := blk_cell (hb) 5)
  go_enter Tryz.func196, Tryz.ntmps196
  go_wp2_with (fail)
  go_loopw [5, 14] (fun v i wr => ∃ k : Nat, i = .int .i64 k ∧ k ≤ ts.length ∧ rdStr.Own F w.heap.size 9 wr v (ss.take k) ∧ Ext w wr) (fun _ i _ => ts.length - (intOf i).toNat)
  case atStart => exact ⟨0, by go_num, Nat.zero_le _, Rd.Own.nil _ _ _ _ _, Ext.refl _⟩
  case round =>
    obtain ⟨k, rfl, hkl, hown, hE⟩ := hrel
    by_cases hlt : k < ts.length
    · obtain ⟨b, o, rfl, hc⟩ := int_get (ht.ext hE) hlt
      have hkr : k < r.length := by rw [H2.out]; exact hlt
      have hks : k < ss.length := by rw [H1.out]; exact hlt
      obtain ⟨b2, o2, rfl, hr0, hr1⟩ := val_get (hr.ext hE) hkr
      obtain ⟨hs1, hs2⟩ := HS.out.2.2 k hlt hkr hks
      obtain ⟨n, hn0⟩ : ∃ n, (r[k]).1 = n := ⟨_, rfl⟩
      obtain ⟨tt, ht0⟩ : ∃ tt, ts[k] = tt := ⟨_, rfl⟩
      obtain ⟨s, hs0⟩ : ∃ s, ss[k] = s := ⟨_, rfl⟩
      rw [hs0, ht0, hn0] at hs2
      rw [ht0] at hc
      rw [hn0] at hr0
      rw [hs1] at hr1
      have HN := As.mk (textC tt s n wr (hs2.ext hE))
      have HS0 := As.mk hs0
      have hfk : As ((ss.take k).length = k) := ⟨by rw [List.length_take]; omega⟩
      clear hs1 hs2 hn0 hs0 ht0
      go_wp2_with (fail)
      refine HN.out.mono ?_; rintro e w1 ⟨rfl, hE1⟩
      have hownc := hown.ext hE1
      have hE01 := hE.trans hE1
      go_wp2_with (first | (at_builtin; refine wpList_push rfl _ _ _ rfl rdStr elStr rfl (hownc.ext ((Ext.refl _).alloc _)) rfl (heap_alloc_new _ _) (y := s) rfl (by rw [hfk.out]; omega) (by rw [hfk.out]; unfold maxLen; omega) (by have := hE01.size; simp; omega) (hE01.alloc _) ?_; intro v' w2 hown2 hg2 hE2))
      rw [← HS0.out, ← take_succ_get ss k hks] at hown2
      go_roundw
      case rel => exact ⟨k + 1, by go_num, by omega, hown2, hE2⟩
      case measure => simp [intOf] <;> omega
    · obtain rfl : k = ts.length := by omega
      have hfin : ss.take ts.length = ss := List.take_of_length_le (by rw [H1.out]; exact Nat.le_refl _)
      rw [hfin] at hown
      obtain ⟨Az, cz, rfl, hsl⟩ := hown.shut hF
      have HJ := As.mk (joinC F Az cz ss ⟨#[32]⟩ _ hsl (by rw [H1.out]; omega) hlen)
      clear hfin hown hsl
      go_wp2_with (fail)
      refine HJ.out.mono ?_; rintro e w1 ⟨rfl, hE1⟩
      go_wp2_with (fail)
      go_ret
      exact ⟨rfl, hE.trans hE1⟩
end K92
end Go.Proofs.YtbjeejimedhniaaGreatDoor
