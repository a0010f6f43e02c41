/- Contracts of the program's functions, as the walks of the law use them. -/
import Derived.Test.YtbjeejimedhniaaGreatDoorD29
import Derived.Test.YtbjeejimedhniaaGreatDoorD4
import Derived.BigQuiet
import Derived.StillTailTactics
set_option linter.unusedVariables false
set_option linter.unusedSimpArgs false
set_option maxRecDepth 100000
set_option maxHeartbeats 8000000
namespace Go.Proofs.YtbjeejimedhniaaGreatDoor
namespace K128
open Go Go.RowKit
open KB KB2 P2 K1 K2 K3 K17 K35 K38 K42 K62 K65 K70 K71 K72 K73 K75 K88 K89 K92 K93 K101 P10 K106 K107 K108 K109 P12 P13 K113 K114 K115 K119 K124 K125 K126 K127
theorem row2 {F : Nat → Prop} {w : World} {g : Nat} {T : TypeId} {fr : Nat × Nat} {a b : Int} (h : w.heap[g]? = some (.cells #[.int .i64 a, .string emp, .int .i64 b, .string emp] T fr)) (hF : ¬ F g) : rdVal.Sl F w (some ⟨g, 0, none⟩) 2 [V a, V b] := by
 have hc := bC h
 refine ⟨Nat.le_refl _, by simp [maxLen], (fun h => by cases h), fun k x hk => ⟨g, 0, rfl, hF, [.int .i64 x.1, .string x.2], rfl, fun j u hj => ?_⟩⟩
 match k, hk with
 | 0, hk =>
   cases hk
   match j, hj with
   | 0, hj => cases hj; exact hc 0
   | 1, hj => cases hj; exact hc 1
   | j + 2, hj => simp at hj
 | 1, hk =>
   cases hk
   match j, hj with
   | 0, hj => cases hj; exact hc 2
   | 1, hj => cases hj; exact hc 3
   | j + 2, hj => simp at hj
 | k + 2, hk => simp at hk
theorem walk2 (A : Option Addr) (c : Nat) (l : List (Int × Int)) (at_ ch : Nat) (w : World) (hA : rdPr.Sl (fun _ => False) w A c l) (hw : ∀ x ∈ l, I64 x.1 ∧ I64 x.2) (hat : at_ ≤ 255) (hch : ch ≤ 65535) (htab : Tab w) :
   Calls Tryz.prog 5 #[.slice A l.length c, .int .u8 at_, .int .u16 ch] w fun e w' => e = .returned (.bool true) ∧ Ext w w' := by
 have HW := As.mk hw
 clear hw
 go_enter Tryz.func5, Tryz.ntmps5
 go_wp2_with (fail)
 refine (shownC w).mono ?_; rintro e w1 ⟨rfl, hE1⟩
 go_wp2_with (fail)
 have hEs := ((Ext.refl w1).alloc (.cells #[.int .i64 1, .int .i64 2] 3)).alloc (.cells #[.slice (some ⟨w1.heap.size, 0, none⟩) 2 2, .int .i64 1, .int .i64 3, .int .i64 2] 27)
 have hsc : SchAt (fun _ => False) ((w1.alloc (.cells #[.int .i64 1, .int .i64 2] 3)).alloc (.cells #[.slice (some ⟨w1.heap.size, 0, none⟩) 2 2, .int .i64 1, .int .i64 3, .int .i64 2] 27)) (some ⟨w1.heap.size, 0, none⟩) 2 s2 :=
   Rd.Sl.ext (int_lit (l := [1, 2]) (bN w1 (.cells #[.int .i64 1, .int .i64 2] 3)) (fun e => e) rfl (by simp [maxLen])) ((Ext.refl _).alloc _)
 refine (begunC (fun _ => False) (some ⟨w1.heap.size, 0, none⟩) 2 s2 s2ok _ hsc (fun k e => e.elim)).mono ?_
 rintro e w2 ⟨dg, mg, tg, pv, St, rfl, hSt, hT, hparts, hnext, hnew, hE2⟩
 have hE02 : Ext w w2 := (hE1.trans hEs).trans hE2
 have hge : ∀ q, SB tg dg mg pv q → w.heap.size ≤ q := fun q hq => Nat.le_trans (hE1.trans hEs).size (hnew q hq)
 have hG0 : G2 (fun _ => False) tg dg mg [] pv w2 := ⟨St, _, hSt, hT, by rw [hparts]; rfl⟩
 clear hE1 hEs hE2 hsc hnew hT hSt hparts hnext St
 obtain ⟨p, hp⟩ : ∃ p, at_ % 21 = p := ⟨_, rfl⟩
 have hpi : ((at_ : Int) % 21) = (p : Int) := by omega
 generalize w1.heap.size = x1
 go_wp2_with (fail)
 go_loopw [9, 10, 14] (fun sv wv i wr => ∃ (j : Nat) (pv : Value) (S Wd : ByteArray), sv = .string S ∧ wv = .string Wd ∧ i = .int .i64 j ∧ j ≤ l.length ∧ j ≤ 20 ∧ G2 (fun _ => False) tg dg mg (l.take j) pv wr ∧ (∀ q, SB tg dg mg pv q → w.heap.size ≤ q) ∧ Ext w wr ∧ S.size ≤ 100 + 200 * j ∧ Wd.size ≤ 10 + 20 * j ∧ As (S.data.toList = srcL p ch (l.take j)) ∧ As (Wd.data.toList = wantL p ch (l.take j))) (fun _ _ i _ => 20 - (intOf i).toNat)
 case atStart => exact ⟨0, pv, tabW, okW, rfl, rfl, by go_num, Nat.zero_le _, Nat.zero_le _, hG0, hge, hE02, by decide, by decide, ⟨src0 p ch⟩, ⟨want0' p ch⟩⟩
 case round =>
   clear hG0 hge hE02 pv
   obtain ⟨j, pv, S, Wd, rfl, rfl, rfl, hjl, hj20, hG, hge, hE, hSz, hWz, hS, hWd⟩ := hrel
   by_cases hc : j < l.length ∧ j < 20
   · obtain ⟨hlt, h20⟩ := hc
     obtain ⟨b, o, rfl, hc1, hc2⟩ := pr_get (hA.ext hE) hlt
     obtain ⟨hx, hy⟩ := HW.out l[j] (List.getElem_mem _)
     obtain ⟨pp, hpp⟩ : ∃ p, l[j] = p := ⟨_, rfl⟩
     rw [hpp] at hx hy hc1 hc2
     obtain ⟨x, y⟩ := pp
     dsimp only at hx hy hc1 hc2
     have HP := As.mk hpp
     clear hpp
     go_wp2_with (fail)
     go_region
     (try simp only [Exit.inBlock, Exit.then])
     have hEr : Ext wr (wr.alloc (.cells #[.int .i64 x, .string emp, .int .i64 y, .string emp] 33)).drew := ((Ext.refl wr).alloc (.cells #[.int .i64 x, .string emp, .int .i64 y, .string emp] 33)).drew
     have hBd := (Ext.refl (wr.alloc (.cells #[.int .i64 x, .string emp, .int .i64 y, .string emp] 33))).drew.blk (bN wr (.cells #[.int .i64 x, .string emp, .int .i64 y, .string emp] 33))
     have hFl := g2_lt hG (fun k e => e.elim)
     have hG3 := g2_ext hG hEr
     have hE3 := hE.trans hEr
     obtain ⟨rb, hrb⟩ : ∃ rb, wr.heap.size = rb := ⟨_, rfl⟩
     rw [hrb] at hBd hFl ⊢
     clear hG hE hEr hrb hc1 hc2
     generalize (wr.alloc (.cells #[.int .i64 x, .string emp, .int .i64 y, .string emp] 33)).drew = w3 at *
     obtain ⟨t1, ht1⟩ : ∃ t, BA (txt 1 x) = t := ⟨_, rfl⟩
     obtain ⟨t2, ht2⟩ : ∃ t, BA (txt 2 y) = t := ⟨_, rfl⟩
     have HT1 := As.mk (fun W => refTextC 1 x (.inl rfl) hx W)
     have HT2 := As.mk (fun W => refTextC 2 y (.inr rfl) hy W)
     have hz1 : t1.size ≤ 21 := by rw [← ht1]; exact txt_len 1 x hx
     have hz2 : t2.size ≤ 21 := by rw [← ht2]; exact txt_len 2 y hy
     rw [ht1] at HT1
     rw [ht2] at HT2
     have HS1 := As.mk ht1
     have HS2 := As.mk ht2
     have HBd := As.mk hBd
     have n1 : ¬ 9223372036854775807 < S.size + 7 := by omega
     have n2 : ¬ 9223372036854775807 < S.size + 7 + t1.size := by omega
     have n3 : ¬ 9223372036854775807 < S.size + 7 + t1.size + 1 := by omega
     have n4 : ¬ 9223372036854775807 < S.size + 7 + t1.size + 1 + t2.size := by omega
     have n5 : ¬ 9223372036854775807 < S.size + 7 + t1.size + 1 + t2.size + 1 := by omega
     have m1 : ¬ 9223372036854775807 < Wd.size + 3 := by omega
     have kp : ∀ w', Ext w3 w' → Ext w3 w' ∧ w'.cell? ⟨rb, 0, none⟩ = some (.int .i64 x) ∧ w'.cell? ⟨rb, 1, none⟩ = some (.string emp) ∧ w'.cell? ⟨rb, 2, none⟩ = some (.int .i64 y) ∧ w'.cell? ⟨rb, 3, none⟩ = some (.string emp) := fun w' h => ⟨h, bC (h.blk hBd) 0, bC (h.blk hBd) 1, bC (h.blk hBd) 2, bC (h.blk hBd) 3⟩
     have HHX := As.mk hx
     have HHY := As.mk hy
     clear ht1 ht2 hBd hx hy
     have hr0 := Ext.refl w3
     go_wp2_with (fail)
     go_region_held3 (fun w' => Ext w3 w' ∧ w'.cell? ⟨rb, 0, none⟩ = some (.int .i64 x) ∧ w'.cell? ⟨rb, 1, none⟩ = some (.string emp) ∧ w'.cell? ⟨rb, 2, none⟩ = some (.int .i64 y) ∧ w'.cell? ⟨rb, 3, none⟩ = some (.string emp)) (((try dsimp only); refine kp _ ?_; first | with_reducible assumption | exact XE)) (first | (go_at_call 19; first | (with_reducible refine (HT1.out _).mono ?_; rintro e w4 ⟨rfl, hE4⟩; have hx4 : Ext w3 w4 := Ext.trans XE hE4) | (with_reducible refine (HT2.out _).mono ?_; rintro e w5 ⟨rfl, hE5⟩; have hx5 : Ext w3 w5 := Ext.trans XE hE5)))
     all_goals
       (try simp only [Exit.inBlock, Exit.then])
       have hB5 := hx5.blk HBd.out
       have hG5 := g2_ext hG3 hx5
       have hE5' := hE3.trans hx5
       have hEi := (Ext.refl w5).alloc (.cells #[.slice (some ⟨rb, 0, none⟩) 2 2] 41)
       have hrow : rdRow.Sl (Fv (SF (fun _ => False) tg dg mg) pv) (w5.alloc (.cells #[.slice (some ⟨rb, 0, none⟩) 2 2] 41)) (some ⟨w5.heap.size, 0, none⟩) 1 [[V x, V y]] := by
         have hb2 := bN w5 (.cells #[.slice (some ⟨rb, 0, none⟩) 2 2] 41)
         have hlt5 := hx5.size
         have hrb5 := blk_lt hB5
         refine lit_one rfl hb2 (fun e => by have := hFl _ e; omega) rfl (by simp [maxLen]) (fun k x hk => ?_)
         match k, hk with
         | 0, hk => cases hk; exact ⟨_, rfl, _, _, rfl, (row2 hB5 (fun e => by have := hFl _ e; omega)).ext hEi⟩
         | k + 1, hk => simp at hk
       have hlen : (l.take j).length = j := by rw [List.length_take]; omega
       have HINS := As.mk (insT2 (fun _ => False) tg dg mg (l.take j) pv _ (g2_ext hG5 hEi) (by rw [hlen]; exact h20) x y HHX.out HHY.out _ 1 hrow (fun k e => e.elim))
       clear hrow hG5 hB5 hG3
       go_wp2_with (fail)
       refine HINS.out.mono ?_; rintro e w6 ⟨rfl, pv', hG6, hpv6, hK6⟩
       have hE6 := (hE5'.trans hEi).keepNew hK6 hge
       have hge6 : ∀ q, SB tg dg mg pv' q → w.heap.size ≤ q := fun q e => by
         rcases e with e | e | e | e
         · exact hge q (.inl e)
         · exact hge q (.inr (.inl e))
         · exact hge q (.inr (.inr (.inl e)))
         · exact (hpv6 q e).elim (fun e => hge q (.inr (.inr (.inr e)))) (fun e => Nat.le_trans (hE5'.trans hEi).size e)
       have hll : l.take j ++ [(x, y)] = l.take (j + 1) := by rw [take_succ_get l j hlt, HP.out]
       rw [hll] at hG6
       have HLL := As.mk hll
       have HLEN := As.mk hlen
       clear HINS hK6 hpv6 hll hlen hEi hE5' hge
       by_cases hjp : j = p
       · have hji : ((j : Nat) : Int) = (p : Int) := by omega
         obtain ⟨t3, ht3⟩ : ∃ t, BA (txt 1 (ch : Int)) = t := ⟨_, rfl⟩
         have hch64 : I64 (ch : Int) := by unfold I64; omega
         have HT3 := As.mk (fun W => refTextC 1 (ch : Int) (.inl rfl) hch64 W)
         have hz3 : t3.size ≤ 21 := by rw [← ht3]; exact txt_len 1 _ hch64
         rw [ht3] at HT3
         have HS3 := As.mk ht3
         have n6 : ¬ 9223372036854775807 < S.size + 7 + t1.size + 1 + t2.size + 1 + 6 := by omega
         have n7 : ¬ 9223372036854775807 < S.size + 7 + t1.size + 1 + t2.size + 1 + 6 + t3.size := by omega
         have n8 : ¬ 9223372036854775807 < S.size + 7 + t1.size + 1 + t2.size + 1 + 6 + t3.size + 3 := by omega
         have n9 : ¬ 9223372036854775807 < S.size + 7 + t1.size + 1 + t2.size + 1 + 6 + t3.size + 3 + 27 := by omega
         have m2 : ¬ 9223372036854775807 < Wd.size + 3 + 6 := by omega
         clear ht3 hch64
         go_wp2_with (fail)
         refine (HT3.out _).mono ?_; rintro e w7 ⟨rfl, hE7⟩
         go_wp2_with (fail)
         go_roundw
         case rel =>
           refine ⟨j + 1, pv', _, _, rfl, rfl, by go_num, by omega, by omega, g2_ext hG6 hE7, hge6, hE6.trans hE7, ?_, ?_, ⟨?_⟩, ⟨?_⟩⟩
           · simp only [ByteArray.size_append]
             show S.size + 7 + t1.size + 1 + t2.size + 1 + 6 + t3.size + 3 + 27 ≤ _
             omega
           · simp only [ByteArray.size_append]
             show Wd.size + 3 + 6 ≤ _
             omega
           · rw [← HLL.out, ← HS1.out, ← HS2.out, ← HS3.out]
             exact src_yes p ch (l.take j) x y (by rw [HLEN.out]; exact hjp) S hS.out
           · rw [← HLL.out]
             exact want_yes p ch (l.take j) x y (by rw [HLEN.out]; exact hjp) Wd hWd.out
         case measure => simp [intOf] <;> omega
       · have hji : ¬ ((j : Nat) : Int) = (p : Int) := by omega
         go_wp2_with (fail)
         go_roundw
         case rel =>
           refine ⟨j + 1, pv', _, _, rfl, rfl, by go_num, by omega, by omega, hG6, hge6, hE6, ?_, ?_, ⟨?_⟩, ⟨?_⟩⟩
           · simp only [ByteArray.size_append]
             show S.size + 7 + t1.size + 1 + t2.size + 1 ≤ _
             omega
           · simp only [ByteArray.size_append]
             show Wd.size + 3 ≤ _
             omega
           · rw [← HLL.out, ← HS1.out, ← HS2.out]
             exact src_no p ch (l.take j) x y (by rw [HLEN.out]; exact hjp) S hS.out
           · rw [← HLL.out]
             exact want_no p ch (l.take j) x y (by rw [HLEN.out]; exact hjp) Wd hWd.out
         case measure => simp [intOf] <;> omega
   · have hend : ¬ (j < l.length ∧ j < 20) := hc
     obtain ⟨L, hL⟩ : ∃ L, l.take j = L := ⟨_, rfl⟩
     have hgood : Good2 L := by
       rw [← hL]
       exact ⟨fun x hx => HW.out x (List.mem_of_mem_take hx), by rw [List.length_take]; omega⟩
     rw [hL] at hG hS hWd
     have hro := rowsT_ok hgood
     obtain ⟨St, lg, hSt, hTb, hps⟩ := hG
     have hsc := hTb.sch
     have hg2 := hgood.2
     have hfin : ∀ W, Ext wr W → Calls Tryz.prog 11 #[PX tg] W fun e w' => ∃ (A' : Option Addr) (c' : Nat), e = .returned (.tuple #[.slice A' (rowsT L).length c', .bool true]) ∧ rdRow.Sl (fun _ => False) w' A' c' (rowsT L) ∧ Ext W w' := fun W hW => by
       have h := finalC (fun _ => False) tg dg mg pv St (by rw [hsc]; exact s2ok) W (hSt.ext hW) (by rw [hps, psOf_len]; omega) (by rw [hps, psOf_flat]; omega) (by rw [hps, hsc]; exact ps_srt hgood) (fun k q => q.elim)
       rw [hps, hsc] at h
       exact h
     have HFIN := As.mk hfin
     have HTAB := As.mk (tab_ext htab hE)
     obtain ⟨R, hR⟩ : ∃ R, rowsT L = R := ⟨_, rfl⟩
     rw [hR] at HFIN hro
     have HGOOD := As.mk hgood
     have HR := As.mk hR
     have HLL := As.mk hL
     have HRO := As.mk hro.1
     have hrl := hro.2
     have hcnd : ¬ (j < l.length) ∨ j < l.length ∧ ¬ j < 20 := by omega
     have sz1 : ¬ 9223372036854775807 < S.size + 32 := by omega
     clear hc hend hfin hSt hTb hps hsc hgood hro hge hL hR hg2
     rcases hcnd with hcnd | ⟨hcn2, hcnd⟩
     all_goals
       go_wp2_with (fail)
       refine (HFIN.out wr (Ext.refl wr)).mono ?_; rintro e w2 ⟨A2, c2, rfl, hs2, hE2⟩
       have hE02 := hE.trans hE2
       have hlen64 : I64 (R.length : Int) := by unfold I64; omega
       obtain ⟨tn, htn⟩ : ∃ t, BA (txt 1 (R.length : Int)) = t := ⟨_, rfl⟩
       have HTN := As.mk (fun W => refTextC 1 (R.length : Int) (.inl rfl) hlen64 W)
       have hzn : tn.size ≤ 21 := by rw [← htn]; exact txt_len 1 _ hlen64
       rw [htn] at HTN
       have HSN := As.mk htn
       have m1 : ¬ 9223372036854775807 < Wd.size + tn.size := by omega
       have m2 : ¬ 9223372036854775807 < Wd.size + tn.size + 1 := by omega
       clear htn
       go_wp2_with (fail)
       refine (HTN.out _).mono ?_; rintro e w3 ⟨rfl, hE3⟩
       have hs3 := hs2.ext hE3
       have hE03 := hE02.trans hE3
       clear hs2 hE02
       go_wp2_with (fail)
       go_loopw [10, 18, 19] (fun wv sv i wr2 => ∃ (k : Nat) (X : ByteArray), wv = .string X ∧ sv = .int .i64 (accR f2 (R.take k)) ∧ i = .int .i64 k ∧ k ≤ R.length ∧ Ext w3 wr2 ∧ X.size ≤ 1000 + 100 * k ∧ As (X.data.toList = wantL p ch L ++ (Lib.decDigits R.length ++ 10 :: ((R.take k).map lineR).flatten))) (fun _ _ i _ => R.length - (intOf i).toNat)
       case atStart =>
         refine ⟨0, Wd ++ tn ++ nlW, rfl, by simp [accR], by go_num, Nat.zero_le _, Ext.refl _, ?_, ⟨?_⟩⟩
         · simp only [ByteArray.size_append]
           show Wd.size + tn.size + 1 ≤ _
           omega
         · have e : txt 1 (R.length : Int) = Lib.decDigits R.length := by
             show Lib.itoa (R.length : Int) = _
             exact Lib.itoa_nonneg _
           rw [← HSN.out]
           simp [hWd.out, e]
       case round =>
         obtain ⟨k, X, rfl, rfl, rfl, hkl, hEk, hXz, hX⟩ := hrel
         by_cases hlt : k < R.length
         · obtain ⟨a, b, ha, hb, hab⟩ := row_cases2 (HRO.out R[k] (List.getElem_mem hlt))
           obtain ⟨gA, oA, A3, cB, rfl, hcA, hv⟩ := row_get (hs3.ext hEk) hlt
           rw [hab] at hcA hv
           obtain ⟨gB, oB, rfl, q0, q1⟩ := val_get hv (k := 0) (by simp)
           obtain ⟨gB', oB', e, q2, q3⟩ := val_get hv (k := 1) (by simp)
           cases e
           simp only [List.getElem_cons_zero, List.getElem_cons_succ, Nat.zero_mul, Nat.one_mul, Nat.add_zero, List.length_cons, List.length_nil] at q0 q1 q2 q3 hcA
           have HTK := As.mk (take_succ_get R k hlt)
           have HAB := As.mk hab
           obtain ⟨t1, ht1⟩ : ∃ t, BA (txt 1 a) = t := ⟨_, rfl⟩
           obtain ⟨t2, ht2⟩ : ∃ t, BA (txt 2 b) = t := ⟨_, rfl⟩
           have HT1 := As.mk (fun W => refTextC 1 a (.inl rfl) ha W)
           have HT2 := As.mk (fun W => refTextC 2 b (.inr rfl) hb W)
           have hz1 : t1.size ≤ 21 := by rw [← ht1]; exact txt_len 1 a ha
           have hz2 : t2.size ≤ 21 := by rw [← ht2]; exact txt_len 2 b hb
           rw [ht1] at HT1
           rw [ht2] at HT2
           have HS1 := As.mk ht1
           have HS2 := As.mk ht2
           have n2 : ¬ 9223372036854775807 < X.size + t1.size := by omega
           have n3 : ¬ 9223372036854775807 < X.size + t1.size + 1 := by omega
           have n4 : ¬ 9223372036854775807 < X.size + t1.size + 1 + t2.size := by omega
           have n5 : ¬ 9223372036854775807 < X.size + t1.size + 1 + t2.size + 1 := by omega
           obtain ⟨s0, hs0⟩ : ∃ s, accR f2 (R.take k) = s := ⟨_, rfl⟩
           have HS0 := As.mk hs0
           rw [hs0]
           have kp : ∀ w', Ext wr w' → Ext wr w' ∧ w'.cell? ⟨gA, oA + k, none⟩ = some (.slice (some ⟨gB, oB, none⟩) 2 cB) ∧ w'.cell? ⟨gB, oB, none⟩ = some (.int .i64 a) ∧ w'.cell? ⟨gB, oB + 1, none⟩ = some (.string emp) ∧ w'.cell? ⟨gB, oB + 2, none⟩ = some (.int .i64 b) ∧ w'.cell? ⟨gB, oB + 3, none⟩ = some (.string emp) := fun w' h => ⟨h, h.cell hcA, h.cell q0, h.cell q1, h.cell q2, h.cell q3⟩
           have Q0 := As.mk hcA
           have Q2 := As.mk q2
           clear ht1 ht2 hs0 hab hv hcA q0 q1 q2 q3 ha hb
           have hr0 := Ext.refl wr
           go_wp2_with (fail)
           go_region_held3 (fun w' => Ext wr w' ∧ w'.cell? ⟨gA, oA + k, none⟩ = some (.slice (some ⟨gB, oB, none⟩) 2 cB) ∧ w'.cell? ⟨gB, oB, none⟩ = some (.int .i64 a) ∧ w'.cell? ⟨gB, oB + 1, none⟩ = some (.string emp) ∧ w'.cell? ⟨gB, oB + 2, none⟩ = some (.int .i64 b) ∧ w'.cell? ⟨gB, oB + 3, none⟩ = some (.string emp)) (((try dsimp only); refine kp _ ?_; first | with_reducible assumption | exact XE)) (first | (go_at_call 19; first | (with_reducible refine (HT1.out _).mono ?_; rintro e w4 ⟨rfl, hE4⟩; have hx4 : Ext wr w4 := Ext.trans XE hE4) | (with_reducible refine (HT2.out _).mono ?_; rintro e w5 ⟨rfl, hE5⟩; have hx5 : Ext wr w5 := Ext.trans XE hE5)))
           all_goals
             (try simp only [Exit.inBlock, Exit.then])
             have r0 := hx5.cell Q0.out
             have r2 := hx5.cell Q2.out
             go_wp2_with (fail)
             go_roundw
             case rel =>
               refine ⟨k + 1, _, rfl, ?_, by go_num, by omega, hEk.trans hx5, ?_, ⟨?_⟩⟩
               · rw [HTK.out, accR_snoc, HS0.out, HAB.out]; rfl
               · simp only [ByteArray.size_append]
                 show X.size + t1.size + 1 + t2.size + 1 ≤ _
                 omega
               · rw [HTK.out, HAB.out, ← HS1.out, ← HS2.out]
                 simp [hX.out, lineR]
             case measure => simp [intOf] <;> omega
         · obtain rfl : k = R.length := by omega
           have hfin : R.take R.length = R := List.take_length
           rw [hfin] at hX ⊢
           have hs64 : I64 (accR f2 R) := accR_i64 _ _
           obtain ⟨sm, hsm⟩ : ∃ s, accR f2 R = s := ⟨_, rfl⟩
           rw [hsm] at hs64 ⊢
           obtain ⟨ts, hts⟩ : ∃ t, BA (txt 2 sm) = t := ⟨_, rfl⟩
           have HTS := As.mk (fun W => refTextC 2 sm (.inr rfl) hs64 W)
           have hzs : ts.size ≤ 21 := by rw [← hts]; exact txt_len 2 _ hs64
           rw [hts] at HTS
           have HX := As.mk (show (X ++ tn ++ spW ++ ts ++ nlW).data.toList = wantL p ch L ++ (Lib.decDigits (rowsT L).length ++ 10 :: ((rowsT L).map lineR).flatten) ++ (txt 1 (accR f1 (rowsT L)) ++ 32 :: (txt 2 (accR f2 (rowsT L)) ++ [10])) from by
             rw [HR.out, acc_count R (by omega), hsm, ← HSN.out, ← hts]
             simp [hX.out])
           have HRUN := As.mk (fun W (hW : Ext wr W) => runScr p ch (by omega) L HGOOD.out S (X ++ tn ++ spW ++ ts ++ nlW) hS.out HX.out (by
             simp only [ByteArray.size_append]
             show X.size + tn.size + 1 + ts.size + 1 ≤ _
             omega) W (tab_ext htab (hE03.trans (hEk.trans hW))))
           have v1 : ¬ 9223372036854775807 < X.size + tn.size := by omega
           have v2 : ¬ 9223372036854775807 < X.size + tn.size + 1 := by omega
           have v3 : ¬ 9223372036854775807 < X.size + tn.size + 1 + ts.size := by omega
           have v4 : ¬ 9223372036854775807 < X.size + tn.size + 1 + ts.size + 1 := by omega
           clear hts hsm hs64 hfin HX
           go_wp2_with (fail)
           refine (HTN.out _).mono ?_; rintro e w6 ⟨rfl, hE6⟩
           go_wp2_with (fail)
           refine (HTS.out _).mono ?_; rintro e w7 ⟨rfl, hE7⟩
           go_wp2_with (fail)
           refine (HRUN.out _ (hE6.trans hE7)).mono ?_; rintro e w8 ⟨rfl, hE8⟩
           go_wp2_with (fail)
           go_ret
           exact ⟨rfl, hE03.trans (hEk.trans ((hE6.trans hE7).trans hE8))⟩
end K128
end Go.Proofs.YtbjeejimedhniaaGreatDoor
