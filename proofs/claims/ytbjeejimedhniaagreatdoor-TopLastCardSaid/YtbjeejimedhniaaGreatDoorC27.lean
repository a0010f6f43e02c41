/- Contracts of the program's functions, as the walks of the law use them. -/
import Derived.Test.YtbjeejimedhniaaGreatDoorC26
import Derived.Test.YtbjeejimedhniaaGreatDoorC19
import Derived.Test.YtbjeejimedhniaaGreatDoorC21
import Derived.Test.YtbjeejimedhniaaGreatDoorC14
import Derived.Test.YtbjeejimedhniaaGreatDoorC3
import Derived.Test.YtbjeejimedhniaaGreatDoorC25
namespace Go.Proofs.YtbjeejimedhniaaGreatDoor
namespace K83
open Go Go.RowKit Go.Lib
open KB KB2 K72 K82
set_option linter.unusedVariables false
set_option linter.unusedSimpArgs false
set_option maxHeartbeats 2000000
set_option maxRecDepth 100000
theorem zPart : ∀ w, (zeroValue 88).run Tryz.prog w = .ok (.pointer none) w := fun w => by kernel_rfl
theorem replaceEndC (w : World) (g cap i j : Nat) (cur : Array Value) (hg : w.heap[g]? = some (.cells cur 88 (0, 0))) (hsz : cur.size = cap) (hij : i + 2 ≤ j) (hjc : j ≤ cap) (hcb : cap ≤ 9223372036854775807) (q : Nat) (v : Value) (hv : w.cell? ⟨q, 0, none⟩ = some v) (h1 : v.oneCell' = true) :
    Calls Tryz.prog 81 #[.slice (some ⟨g, 0, none⟩) j cap, .int .i64 i, .int .i64 j, .slice (some ⟨q, 0, none⟩) 1 1] w fun e w' => ∃ cur', e = .returned (.slice (some ⟨g, 0, none⟩) (i + 1) cap) ∧ w'.heap[g]? = some (.cells cur' 88 (0, 0)) ∧ cur'.size = cap ∧ cur'.toList.take (i + 1) = cur.toList.take i ++ [v] ∧ Keep (fun k => k = g) w w' := by
  have r1 := fun W => own_mid' elPart g j cap i j (by omega) (Nat.le_refl _) hjc (by omega) .i64 .i64 W
  have r2 := fun W => own_pre' elPart g j cap i i rfl (by omega) hjc .i64 W
  obtain ⟨d, hd⟩ : ∃ d, j = i + 1 + d := ⟨j - (i + 1), by omega⟩
  have r3 := fun W => own_suf' elPart g j cap (i + 1) d (cap - (i + 1)) ((i : Int) + 1) (by omega) (by omega) (by omega) (by omega) rfl .i64 W
  have d0 : ((i : Int) == (j : Int)) = false := beq_eq_false_iff_ne.mpr (by omega)
  have d1 : decide ((i : Int) + 1 < (j : Int)) = true := decide_eq_true (by omega)
  have d2 : decide (i + 1 < j) = true := decide_eq_true (by omega)
  have d3 : ¬ i = j := by omega
  have d4 : i + 1 < j := by omega
  have HD := As.mk hd
  clear hd
  go_enter Tryz.func81, Tryz.ntmps81
  go_wp2_with (first | (at_builtin; refine wpList_roomR rfl (.tmp 32) (.tmp 33) 83 rfl elPart g i cap rfl cur hg hsz q 1 rfl v hv h1 (by omega) ?_; intro w2 c2 hg2 hs2 ht2 hk2; have hcl := run_clear_slice (P := Tryz.prog) w2 83 88 0 (.pointer none) elPart.1 zPart rfl rfl g (i + 1) d (cap - (i + 1)) (by have := HD.out; omega) (fun k hk => by rw [blk_cell hg2]; have := HD.out; simp; omega) (fun k hk => blk_froz hg2 _)))
  obtain ⟨c3, hg3, hs3, ht3, hk3⟩ := setCells_row g (List.replicate d (.pointer none)) (i + 1) w2 c2 _ hg2
  generalize w2.setCells g (i + 1) (List.replicate d (.pointer none)) = w3 at *
  go_ret
  refine ⟨c3, rfl, hg3, by rw [hs3, hs2], ?_, hk2.trans hk3⟩
  rw [← ht2]
  apply List.ext_getElem?
  intro k
  rw [List.getElem?_take, List.getElem?_take]
  by_cases h : k < i + 1
  · rw [if_pos h, if_pos h, Array.getElem?_toList, Array.getElem?_toList, ht3 k h]
  · rw [if_neg h, if_neg h]
theorem replaceMidC (w : World) (g cap i j d n : Nat) (cur : Array Value) (hg : w.heap[g]? = some (.cells cur 88 (0, 0))) (hsz : cur.size = cap) (hij : i + 2 ≤ j) (hn : n = j + d) (hd : 0 < d) (hnc : n ≤ cap) (hcb : cap ≤ 9223372036854775807) (hone : ∀ k u, j ≤ k → k < n → cur[k]? = some u → u.oneCell' = true) (q : Nat) (v : Value) (hv : w.cell? ⟨q, 0, none⟩ = some v) (h1 : v.oneCell' = true) :
    Calls Tryz.prog 81 #[.slice (some ⟨g, 0, none⟩) n cap, .int .i64 i, .int .i64 j, .slice (some ⟨q, 0, none⟩) 1 1] w fun e w' => ∃ cur', e = .returned (.slice (some ⟨g, 0, none⟩) (i + 1 + d) cap) ∧ w'.heap[g]? = some (.cells cur' 88 (0, 0)) ∧ cur'.size = cap ∧ cur'.toList.take (i + 1 + d) = cur.toList.take i ++ [v] ++ (cur.toList.drop j).take d ∧ Keep (fun k => k = g) w w' := by
  have r1 := fun W => own_mid' elPart g n cap i j (by omega) (by omega) hnc (by omega) .i64 .i64 W
  have r2 := fun W => own_pre' elPart g n cap i i rfl (by omega) hnc .i64 W
  have r3 := fun W => own_suf' elPart g n cap j d (cap - j) (j : Int) rfl (by omega) (by omega) (by omega) rfl .i64 W
  obtain ⟨T, hT⟩ : ∃ T, T = i + 1 + d := ⟨_, rfl⟩
  have hTi : (i : Int) + 1 + (d : Int) = (T : Int) := by omega
  have r4 := fun W => own_pre' elPart g n cap T (T : Int) rfl (by omega) hnc .i64 W
  have r5 := fun W => own_suf' elPart g T cap i (d + 1) (cap - i) (i : Int) rfl (by omega) (by omega) (by omega) rfl .i64 W
  have r6 := fun W => own_suf' elPart g T cap (i + 1) d (cap - (i + 1)) ((i : Int) + 1) (by omega) (by omega) (by omega) (by omega) rfl .i64 W
  obtain ⟨m, hm⟩ : ∃ m, n - T = m := ⟨_, rfl⟩
  have r7 := fun W => own_suf' elPart g n cap T m (cap - T) (T : Int) rfl (by omega) (by omega) hm rfl .i64 W
  have w1 : IntKind.i64.wrap ((i : Int) + 1) = (i : Int) + 1 := by rw [IntKind.wrap_i64]; omega
  have w2 : IntKind.i64.wrap ((i : Int) + 1 + (d : Int)) = (T : Int) := by rw [IntKind.wrap_i64]; omega
  have d0 : ((i : Int) == (j : Int)) = false := beq_eq_false_iff_ne.mpr (by omega)
  have d0' : ((j : Int) == (n : Int)) = false := beq_eq_false_iff_ne.mpr (by omega)
  have d3 : ¬ i = j := by omega
  have d3' : ¬ j = n := by omega
  have d4 : decide ((cap : Int) < (T : Int)) = false := decide_eq_false (by omega)
  have d4' : ¬ cap < T := by omega
  have d5 : decide ((i : Int) + 1 ≤ (j : Int)) = true := decide_eq_true (by omega)
  have d5' : i + 1 ≤ j := by omega
  rw [← hT]
  have HD := As.mk (And.intro hT (And.intro hn hm))
  have HO := As.mk hone
  clear hT hn hm hone hTi
  go_enter Tryz.func81, Tryz.ntmps81
  go_wp2_with (fail)
  go_quiet (fail)
  go_wp2_with (first | (refine wpList_copyR rfl (.tmp 95) (.tmp 96) 83 rfl elPart g i (d + 1) (cap - i) rfl cur hg q 0 1 1 rfl [v] rfl (by omega) (fun k u hk => by have : k = 0 := by { have := (List.getElem?_eq_some_iff.1 hk).1; simp at this; omega }; subst this; cases hk; exact hv) (by simpa using h1) (by have := HD.out; omega) ?_; intro w2 c2 hg2 hs2 ht2 hk2))
  have hj2 : ∀ k, j ≤ k → c2[k]? = cur[k]? := fun k hk => by
    have e := congrArg (fun l => l[k]?) ht2
    simp only [Array.getElem?_toList] at e
    rw [e]
    rw [List.getElem?_append_right (by rw [List.length_take]; omega)]
    have hl : (cur.toList.take i).length = i := by rw [List.length_take, Array.length_toList]; have := HD.out; omega
    rw [hl, List.getElem?_append_right (by simp; omega), List.getElem?_drop, Array.getElem?_toList]
    congr 1; simp; omega
  have hlen2 : ((c2.toList.drop j).take d).length = d := by rw [List.length_take, List.length_drop, Array.length_toList, hs2, hsz]; have := HD.out; omega
  have hcv : ∀ k u, ((c2.toList.drop j).take d)[k]? = some u → c2[j + k]? = some u ∧ k < d := fun k u hk => by
    rw [List.getElem?_take] at hk
    by_cases q : k < d
    · rw [if_pos q, List.getElem?_drop, Array.getElem?_toList] at hk; exact ⟨hk, q⟩
    · rw [if_neg q] at hk; cases hk
  have hone2 : ∀ u ∈ (c2.toList.drop j).take d, u.oneCell' = true := fun u hu => by
    obtain ⟨k, hk, rfl⟩ := List.getElem_of_mem hu
    have := hcv k _ (List.getElem?_eq_getElem hk)
    exact HO.out (j + k) _ (by omega) (by have := HD.out; omega) ((hj2 (j + k) (by omega)).symm.trans this.1)
  obtain ⟨cs, hcs⟩ : ∃ cs, cs = (c2.toList.drop j).take d := ⟨_, rfl⟩
  rw [← hcs] at hlen2 hcv hone2
  have HCS := As.mk hcs
  have HL2 := As.mk hlen2
  have HT2 := As.mk ht2
  have HS2 := As.mk hs2
  clear hcs hlen2 ht2 hj2 hs2
  have hg2d : w2.drew.heap[g]? = some (.cells c2 88 (0, 0)) := hg2
  have hfit : i + 1 + cs.length ≤ c2.size := by rw [HL2.out, HS2.out]; have := HD.out; omega
  have hcp := run_copy_row (P := Tryz.prog) w2.drew 83 83 3 88 g (i + 1) d (cap - (i + 1)) ⟨g, j, none⟩ d (cap - j) c2 88 cs elPart.1 (by kernel_rfl) hg2d (by rw [HL2.out]; exact (Nat.min_self d).symm) (fun k u hk => by rw [Addr.add_lit]; exact (blk_cell hg2d (j + k)).trans (hcv k u hk).1) hfit hone2
  obtain ⟨C3, hC3⟩ : ∃ C3, (c2.toList.take (i + 1) ++ cs ++ c2.toList.drop (i + 1 + cs.length)).toArray = C3 := ⟨_, rfl⟩
  have hg3 := setRow_heap w2.drew g c2 C3 _ _ hg2d
  have hk3 := keep_row w2.drew g C3
  have hz3 : C3.size = cap := by
    rw [← hC3]
    have hmo : min (i + 1) c2.size = i + 1 := Nat.min_eq_left (by omega)
    simp only [List.size_toArray, List.length_append, List.length_take, List.length_drop, Array.length_toList, hmo]
    have := HS2.out
    omega
  have ht3 : C3.toList.take T = c2.toList.take (i + 1) ++ cs := by
    rw [← hC3]
    refine List.take_left' ?_
    have hmo : min (i + 1) c2.size = i + 1 := Nat.min_eq_left (by omega)
    rw [List.length_append, List.length_take, Array.length_toList, hmo, HL2.out]
    exact HD.out.1.symm
  rw [hC3] at hcp
  obtain ⟨w3, hw3⟩ : ∃ w3, w2.drew.setRow g C3 = w3 := ⟨_, rfl⟩
  rw [hw3] at hcp hg3 hk3
  have HT3 := As.mk ht3
  have hcl := run_clear_slice (P := Tryz.prog) w3 83 88 0 (.pointer none) elPart.1 zPart rfl rfl g T m (cap - T) (by have := HD.out; omega) (fun k hk => by rw [blk_cell hg3]; have := HD.out; simp; omega) (fun k hk => blk_froz hg3 _)
  clear ht3 hC3 hfit hg2d hone2 hcv
  go_wp2_with (fail)
  go_region
  (try simp only [Exit.inBlock, Exit.then])
  go_wp2_with (fail)
  obtain ⟨c4, hg4, hs4, ht4, hk4⟩ := setCells_row g (List.replicate m (.pointer none)) T w3 C3 _ hg3
  generalize w3.setCells g T (List.replicate m (.pointer none)) = w4 at *
  go_ret
  refine ⟨c4, rfl, hg4, hs4.trans hz3, ?_, ((((Ext.refl w).drewN _).keep _).trans (hk2.trans ((Ext.refl w2).drew.keep _))).trans (hk3.trans hk4)⟩
  have e1 : c4.toList.take T = C3.toList.take T := by
    apply List.ext_getElem?
    intro k
    rw [List.getElem?_take, List.getElem?_take]
    by_cases h : k < T
    · rw [if_pos h, if_pos h, Array.getElem?_toList, Array.getElem?_toList, ht4 k h]
    · rw [if_neg h, if_neg h]
  have hli : (cur.toList.take i).length = i := by rw [List.length_take, Array.length_toList]; have := HD.out; omega
  have e2 : c2.toList.take (i + 1) = cur.toList.take i ++ [v] := by
    rw [HT2.out, ← List.append_assoc]
    exact List.take_left' (by rw [List.length_append, hli]; rfl)
  have e3 : c2.toList.drop j = cur.toList.drop j := by
    rw [HT2.out, ← List.append_assoc, List.drop_append, List.drop_of_length_le (by rw [List.length_append, hli]; simp; omega), List.nil_append, List.drop_drop, List.length_append, hli]
    congr 1
    simp; omega
  rw [e1, HT3.out, e2, HCS.out, e3]
end K83
namespace K32
open Go Go.RowKit
open KB KB2 KB3 K1 K6 K7 K8 K9 K22 K24 K25 K29 K30 K31
set_option linter.unusedVariables false
set_option linter.unusedSimpArgs false
set_option maxHeartbeats 2000000
set_option maxRecDepth 100000
/-- Three slices laid in a block of their own. -/
theorem lit3 {α : Type} {R : Rd α} {hsz : 0 < R.sz} {F : Nat → Prop} {w : World} {g : Nat} {T : TypeId} {fr : Nat × Nat} {A1 A2 A3 : Option Addr} {c1 c2 c3 n1 n2 n3 : Nat} {l1 l2 l3 : List α}
    (h : w.heap[g]? = some (.cells #[.slice A1 n1 c1, .slice A2 n2 c2, .slice A3 n3 c3] T fr)) (hF : ¬ F g) (h1 : R.Sl F w A1 c1 l1) (e1 : n1 = l1.length) (h2 : R.Sl F w A2 c2 l2) (e2 : n2 = l2.length) (h3 : R.Sl F w A3 c3 l3) (e3 : n3 = l3.length) : (rdSl R hsz).Sl F w (some ⟨g, 0, none⟩) 3 [l1, l2, l3] := by
  subst e1 e2 e3
  refine lit_one rfl h hF rfl (by simp [maxLen]) (fun k x hk => ?_)
  match k, hk with
  | 0, hk => cases hk; exact ⟨_, rfl, _, _, rfl, h1⟩
  | 1, hk => cases hk; exact ⟨_, rfl, _, _, rfl, h2⟩
  | 2, hk => cases hk; exact ⟨_, rfl, _, _, rfl, h3⟩
  | k + 3, hk => simp at hk
theorem applySwapC (F : Nat → Prop) (A Ai Am : Option Addr) (c ci cm : Nat) (s : Sch) (ids : List Int) (next : Int) (id : Nat) (hid : id ≤ 999999) (hnx : next ≤ id) (hn : ids.length ≤ 40) (mid : List Int) (j : Nat) (hj : j + mid.length ≤ ids.length) (hk : 1 < mid.length) (hm : (ids.take (j + mid.length)).drop j = mid) (hb : ∀ i (h : i < j), ids[i]'(by omega) ≠ mid[0]) (hv : ∀ n ∈ mid, 0 ≤ n ∧ n ≤ 999999) (w : World) (hi : (rdInt .i64).Sl F w Ai ci ids) (him : (rdInt .i64).Sl F w Am cm mid) (hF : ∀ k, F k → k < w.heap.size) :
    Calls Tryz.prog 76 #[stV A c s Ai ci ids next, .agg #[.int .i64 3, .slice none 0 0, .int .i64 0, .int .i64 0, .int .i64 0, .slice Am mid.length cm, .int .i64 id]] w fun e w' => ∃ Ai' ci', e = .returned (.tuple #[stV A c s Ai' ci' (ids.take j ++ ((id : Int) :: ids.drop (j + mid.length))) (id + 1), .bool true]) ∧ (rdInt .i64).Sl F w' Ai' ci' (ids.take j ++ ((id : Int) :: ids.drop (j + mid.length))) ∧ Ext w w' := by
  have B1 := blk_new w (.cells #[.slice A s.types.length c, .int .i64 s.keys, .int .i64 s.mode, .int .i64 s.grain, .slice Ai ids.length ci, .int .i64 next] 82)
  have hE1 := (Ext.refl w).alloc (.cells #[.slice A s.types.length c, .int .i64 s.keys, .int .i64 s.mode, .int .i64 s.grain, .slice Ai ids.length ci, .int .i64 next] 82)
  have B2 := blk_new (w.alloc (.cells #[.slice A s.types.length c, .int .i64 s.keys, .int .i64 s.mode, .int .i64 s.grain, .slice Ai ids.length ci, .int .i64 next] 82)) (.cells #[.int .i64 3, .slice none 0 0, .int .i64 0, .int .i64 0, .int .i64 0, .slice Am mid.length cm, .int .i64 id] 92)
  have hE2 := hE1.alloc (.cells #[.int .i64 3, .slice none 0 0, .int .i64 0, .int .i64 0, .int .i64 0, .slice Am mid.length cm, .int .i64 id] 92)
  have B3 := blk_new ((w.alloc (.cells #[.slice A s.types.length c, .int .i64 s.keys, .int .i64 s.mode, .int .i64 s.grain, .slice Ai ids.length ci, .int .i64 next] 82)).alloc (.cells #[.int .i64 3, .slice none 0 0, .int .i64 0, .int .i64 0, .int .i64 0, .slice Am mid.length cm, .int .i64 id] 92)) (.cells #[.slice none 0 0, .int .i64 0, .int .i64 0, .int .i64 0, .slice none 0 0, .int .i64 0] 82)
  have hE3 := hE2.alloc (.cells #[.slice none 0 0, .int .i64 0, .int .i64 0, .int .i64 0, .slice none 0 0, .int .i64 0] 82)
  replace B2 := blk_old (o' := .cells #[.slice none 0 0, .int .i64 0, .int .i64 0, .int .i64 0, .slice none 0 0, .int .i64 0] 82) B2
  replace B1 := blk_old (o' := .cells #[.slice none 0 0, .int .i64 0, .int .i64 0, .int .i64 0, .slice none 0 0, .int .i64 0] 82) (blk_old (o' := .cells #[.int .i64 3, .slice none 0 0, .int .i64 0, .int .i64 0, .int .i64 0, .slice Am mid.length cm, .int .i64 id] 92) B1)
  simp only [World.size_alloc] at B2 B3
  (have b0 := blk_cell (B2) 0; have b1 := blk_cell (B2) 1; have b2 := blk_cell (B2) 2; have b3 := blk_cell (B2) 3; have b4 := blk_cell (B2) 4; have b5 := blk_cell (B2) 5; have b6 := blk_cell (B2) 6)
  have d0 : decide ((id : Int) < next) = false := decide_eq_false (by omega)
  have d1 : decide ((j : Int) < 0) = false := decide_eq_false (by omega)
  have HR := fun W h1 h2 => rowC F Ai Am ci cm ids mid j hj (by omega) hm hb W h1 h2 (by omega)
  go_enter Tryz.func76, Tryz.ntmps76
  go_wp2_with (fail)
  generalize (((w.alloc (.cells #[.slice A s.types.length c, .int .i64 s.keys, .int .i64 s.mode, .int .i64 s.grain, .slice Ai ids.length ci, .int .i64 next] 82)).alloc (.cells #[.int .i64 3, .slice none 0 0, .int .i64 0, .int .i64 0, .int .i64 0, .slice Am mid.length cm, .int .i64 id] 92)).alloc (.cells #[.slice none 0 0, .int .i64 0, .int .i64 0, .int .i64 0, .slice none 0 0, .int .i64 0] 82)) = w3 at *
  obtain ⟨x, hx⟩ : ∃ x, w.heap.size = x := ⟨_, rfl⟩
  rw [hx] at B1 B2 B3 ⊢
  refine (putSwapC F Am cm mid id hid w3 (him.ext hE3) (by omega) hk hv (FExt hF hE3)).mono ?_; rintro e w4 ⟨A4, c4, rfl, _, hE4⟩
  replace B1 := hE4.blk B1
  replace B2 := hE4.blk B2
  replace B3 := hE4.blk B3
  have hEw4 := hE3.trans hE4
  clear b0 b1 b2 b3 b4 b5 b6
  have B5 := blk_new w4 (.cells #[.slice A s.types.length c, .int .i64 s.keys, .int .i64 s.mode, .int .i64 s.grain, .slice none 0 0, .int .i64 (id + 1)] 82)
  have hE5 := (Ext.refl w4).alloc (.cells #[.slice A s.types.length c, .int .i64 s.keys, .int .i64 s.mode, .int .i64 s.grain, .slice none 0 0, .int .i64 (id + 1)] 82)
  (have a0 := blk_cell (B1) 0; have a1 := blk_cell (B1) 1; have a2 := blk_cell (B1) 2; have a3 := blk_cell (B1) 3; have a4 := blk_cell (B1) 4; have a5 := blk_cell (B1) 5)
  (have b0 := blk_cell (B2) 0; have b1 := blk_cell (B2) 1; have b2 := blk_cell (B2) 2; have b3 := blk_cell (B2) 3; have b4 := blk_cell (B2) 4; have b5 := blk_cell (B2) 5; have b6 := blk_cell (B2) 6)
  (have p0 := blk_cell (hE5.blk B1) 0; have p1 := blk_cell (hE5.blk B1) 1; have p2 := blk_cell (hE5.blk B1) 2; have p3 := blk_cell (hE5.blk B1) 3; have p4 := blk_cell (hE5.blk B1) 4; have p5 := blk_cell (hE5.blk B1) 5)
  (have q0 := blk_cell (hE5.blk B2) 0; have q1 := blk_cell (hE5.blk B2) 1; have q2 := blk_cell (hE5.blk B2) 2; have q3 := blk_cell (hE5.blk B2) 3; have q4 := blk_cell (hE5.blk B2) 4; have q5 := blk_cell (hE5.blk B2) 5; have q6 := blk_cell (hE5.blk B2) 6)
  go_wp2_with (fail)
  have hxy := blk_lt B3
  have hEw5 := hEw4.trans hE5
  replace B1 := hE5.blk B1
  replace B2 := hE5.blk B2
  replace B3 := hE5.blk B3
  have hi5 := hi.ext hEw5
  generalize (w4.alloc (.cells #[.slice A s.types.length c, .int .i64 s.keys, .int .i64 s.mode, .int .i64 s.grain, .slice none 0 0, .int .i64 (id + 1)] 82)) = w5 at *
  obtain ⟨y, hy⟩ : ∃ y, w4.heap.size = y := ⟨_, rfl⟩
  rw [hy] at B5 hxy ⊢
  clear a0 a1 a2 a3 a4 a5 b0 b1 b2 b3 b4 b5 b6 p0 p1 p2 p3 p4 p5 q0 q1 q2 q3 q4 q5 q6
  refine (HR w5 hi5 (him.ext hEw5)).mono ?_; rintro e w6 ⟨rfl, hE6⟩
  clear HR
  replace B1 := hE6.blk B1
  replace B2 := hE6.blk B2
  replace B3 := hE6.blk B3
  replace B5 := hE6.blk B5
  have hEw6 := hEw5.trans hE6
  have hi6 := hi5.ext hE6
  have hle := hi.le
  have hmx := hi.max
  obtain ⟨A9, hsl9, hS9⟩ := hi6.suf elInt (j + mid.length) (ids.length - (j + mid.length)) ((j : Int) + (mid.length : Int)) hj (by omega) rfl
  have hpre := hi6.pre j
  have HT1 : As (j = (ids.take j).length) := ⟨by rw [List.length_take]; omega⟩
  have HT3 : As (ids.length - (j + mid.length) = (ids.drop (j + mid.length)).length) := ⟨by rw [List.length_drop]⟩
  obtain ⟨M, hM⟩ : ∃ M, ids.take j ++ ((id : Int) :: ids.drop (j + mid.length)) = M := ⟨_, rfl⟩
  have HL : As ([ids.take j, [(id : Int)], ids.drop (j + mid.length)].flatten = M) := ⟨by rw [← hM]; simp⟩
  have HLL : As (M.length ≤ 100) := ⟨by rw [← hM]; simp; omega⟩
  have HM := As.mk hM
  clear hM
  have i0 : (0 : Int) ≤ (j : Int) := by omega
  have i1 : (j : Int) ≤ (ci : Int) := by omega
  have i2 : (0 : Int) ≤ (j : Int) + (mid.length : Int) := by omega
  have i3 : (j : Int) + (mid.length : Int) ≤ (ids.length : Int) := by omega
  have i4 : (ids.length : Int) ≤ 100 := by omega
  have iw : IntKind.i64.wrap ((j : Int) + (mid.length : Int)) = (j : Int) + (mid.length : Int) := by rw [IntKind.wrap_i64]; omega
  have hxys : ¬ x = y ∧ ¬ x + 1 = y := by omega
  have keep : ∀ w', Keep (fun k => k = y) w6 w' → Keep (fun k => k = y) w6 w' ∧ w'.cell? ⟨x, 4, none⟩ = some (.slice Ai ids.length ci) ∧ w'.cell? ⟨x + 1, 5, none⟩ = some (.slice Am mid.length cm) ∧ w'.cell? ⟨x + 1, 6, none⟩ = some (.int .i64 id) := fun w' h => ⟨h, h.cell hxys.1 (blk_cell B1 4), h.cell hxys.2 (blk_cell B2 5), h.cell hxys.2 (blk_cell B2 6)⟩
  have hF6 := FExt hF hEw6
  have d2 : decide ((j : Int) < 0) = false := d1
  go_wp2_with (fail)
  obtain ⟨_, f0, f1, f2⟩ := keep w6 (Keep.refl _ _)
  have hd := hm
  clear hm hb hd
  have L1 : ∀ W : World, W.heap[w6.heap.size]? = some (.cells #[.int .i64 id] 3 (0, 0)) → (rdInt .i64).Sl F W (some ⟨w6.heap.size, 0, none⟩) 1 [(id : Int)] := fun W h => int_lit h (fun q => Nat.lt_irrefl _ (hF6 _ q)) (l := [(id : Int)]) rfl (by simp [maxLen])
  have G2 := blk_new (w6.alloc (.cells #[.int .i64 id] 3)) (.cells #[.slice Ai j ci, .slice (some ⟨w6.heap.size, 0, none⟩) 1 1, .slice A9 (ids.length - (j + mid.length)) (ci - (j + mid.length))] 25)
  rw [World.size_alloc] at G2
  have N2 : ¬ F (w6.heap.size + 1) := fun q => by have := hF6 _ q; omega
  go_region_held3 (fun w' => Keep (fun k => k = y) w6 w' ∧ w'.cell? ⟨x, 4, none⟩ = some (.slice Ai ids.length ci) ∧ w'.cell? ⟨x + 1, 5, none⟩ = some (.slice Am mid.length cm) ∧ w'.cell? ⟨x + 1, 6, none⟩ = some (.int .i64 id)) (((try dsimp only); refine keep _ ?_; first | with_reducible assumption | exact (Ext.keep (w := w6) (by (repeat (first | with_reducible refine Ext.drew ?_ | with_reducible refine Ext.drewN ?_ _ | with_reducible refine Ext.alloc ?_ _)); first | with_reducible assumption | with_reducible exact Ext.refl _) _) | exact (hx7.keep _).trans (keep_set1 _ _ _ _))) (first | (go_at_call 157; refine (concatIO F _ _ _ M HL.out _ (lit3 (by exact G2) N2 (hpre.ext (by (repeat (first | with_reducible refine Ext.drew ?_ | with_reducible refine Ext.drewN ?_ _ | with_reducible refine Ext.alloc ?_ _)); first | with_reducible assumption | with_reducible exact Ext.refl _)) HT1.out (L1 _ (by exact blk_old (blk_new w6 _))) rfl (hS9.ext (by (repeat (first | with_reducible refine Ext.drew ?_ | with_reducible refine Ext.drewN ?_ _ | with_reducible refine Ext.alloc ?_ _)); first | with_reducible assumption | with_reducible exact Ext.refl _)) HT3.out) (by simp) (by have := HLL.out; omega)).mono ?_; rintro e w7 ⟨v7, rfl, hown7, hE7⟩; have hx7 : Ext w6 w7 := Ext.trans (by (repeat (first | with_reducible refine Ext.drew ?_ | with_reducible refine Ext.drewN ?_ _ | with_reducible refine Ext.alloc ?_ _)); first | with_reducible assumption | with_reducible exact Ext.refl _) hE7; replace hown7 := hown7.lower (Ext.size (w := w6) (by (repeat (first | with_reducible refine Ext.drew ?_ | with_reducible refine Ext.drewN ?_ _ | with_reducible refine Ext.alloc ?_ _)); first | with_reducible assumption | with_reducible exact Ext.refl _)); obtain ⟨A7, c7, rfl, _⟩ := hown7.shut hF6; have s4 := blk_cell (hx7.blk B5) 4; have sf4 := blk_froz (hx7.blk B5) 4))
  (try simp only [Exit.inBlock, Exit.then])
  have hxw : w.heap.size ≤ x := Nat.le_of_eq hx
  have Y := blk_set (hx7.blk B5) 4 (.slice A7 M.length c7)
  have K7 := keep_set1 w7 y 4 (.slice A7 M.length c7)
  have X3 := K7.blk (by omega : ¬ x + 1 + 1 = y) (hx7.blk B3)
  have n1 : ¬ x + 1 + 1 = y := by omega
  have n2 : ¬ y = x + 1 + 1 := by omega
  (have r0 := blk_cell (hx7.blk B5) 0; have r1 := blk_cell (hx7.blk B5) 1; have r2 := blk_cell (hx7.blk B5) 2; have r3 := blk_cell (hx7.blk B5) 3; have r4 := blk_cell (hx7.blk B5) 4; have r5 := blk_cell (hx7.blk B5) 5)
  (have t0 := blk_cell (hx7.blk B3) 0; have tf0 := blk_froz (hx7.blk B3) 0; have t1 := blk_cell (hx7.blk B3) 1; have tf1 := blk_froz (hx7.blk B3) 1; have t2 := blk_cell (hx7.blk B3) 2; have tf2 := blk_froz (hx7.blk B3) 2; have t3 := blk_cell (hx7.blk B3) 3; have tf3 := blk_froz (hx7.blk B3) 3; have t4 := blk_cell (hx7.blk B3) 4; have tf4 := blk_froz (hx7.blk B3) 4; have t5 := blk_cell (hx7.blk B3) 5; have tf5 := blk_froz (hx7.blk B3) 5)
  go_wp2_with (fail)
  have P := put6 X3 (.slice A s.types.length c) (.int .i64 s.keys) (.int .i64 s.mode) (.int .i64 s.grain) (.slice A7 M.length c7) (.int .i64 (id + 1))
  have KW := K7.or P.2
  (have e0 := blk_cell (P.1) 0; have e1 := blk_cell (P.1) 1; have e2 := blk_cell (P.1) 2; have e3 := blk_cell (P.1) 3; have e4 := blk_cell (P.1) 4; have e5 := blk_cell (P.1) 5)
  (try simp only [Exit.inBlock, Exit.then])
  refine bodyPost_ret (v := .tuple #[stV A c s A7 c7 M (id + 1), .bool true]) (by simp [results, Tryz.results76, go_sem, e0, e1, e2, e3, e4, e5]) rfl ?_
  rw [HM.out]
  have hwy : w.heap.size ≤ y := by have := hEw4.size; omega
  have hy5 := blk_lt B5
  have how := hown7.free (intFree .i64) (G := F) (fun k hk => KW.block k (hown7.ge k hk).2 (fun q => by have := (hown7.ge k hk).1; rcases q with q | q <;> omega))
  obtain ⟨A8, c8, he, hs8⟩ := how.shut hF6
  simp only [Value.slice.injEq, true_and] at he
  obtain ⟨rfl, rfl⟩ := he
  exact ⟨A7, c7, rfl, hs8, (hEw6.trans hx7).keepNew KW (fun i q => by rcases q with q | q <;> omega)⟩
end K32
namespace K84
open Go Go.RowKit Go.Lib
open KB KB2 K1 K19 K35 K57 K70 K71 K72 P8 K75 K82 K83
set_option linter.unusedVariables false
set_option linter.unusedSimpArgs false
set_option maxHeartbeats 2000000
set_option maxRecDepth 100000
/-- Its parts anew, in the block in which they were. -/
theorem store_set {F : Nat → Prop} {w w' : World} {tg dg mg : Nat} {pv pv' : Value} {S : StM} {parts : List (List Row)} (h : StoreAt F w tg dg mg pv S) (hF : ∀ k, F k → k < w.heap.size) (hown : (rdPart S.s).Own (SF F tg dg mg) 0 88 w' pv' parts) (kg : Keep (fun k => pv.ownBlock = some k) w w') (hat : pv'.ownBlock = pv.ownBlock) :
    StoreAt F (w'.setCell ⟨tg, 7, none⟩ pv') tg dg mg pv' { S with parts := parts } ∧ Keep (SB tg dg mg pv) w (w'.setCell ⟨tg, 7, none⟩ pv') := by
  obtain ⟨ft, td, tm, hd, hpp, hf, A, c, Ai, ci, hb, h1, h2⟩ := h
  have hpt : ¬ pv.ownBlock = some tg := fun e => hf tg e (.inl (.inr rfl))
  have hpt' : ¬ pv'.ownBlock = some tg := by rw [hat]; exact hpt
  have ks := keep_set1 w' tg 7 pv'
  have hbs := blk_set (kg.blk hpt hb) 7 pv'
  have hN : ∀ {P : Nat → Prop} k, Fv P pv' k → Fv P pv k := fun k q => q.elim .inl (fun e => .inr (by rw [← hat]; exact e))
  refine ⟨⟨ft, td, tm, ?_, ?_, ?_, A, c, Ai, ci, hbs, ?_, ?_⟩, ?_⟩
  · exact disk_narrow ((hd.keep (kg.mono (fun k _ q => .inr q))).keep (ks.mono (fun k _ q => .inl (.inr q)))) (fun k _ q => hN k q)
  · exact hown.keep2 (ks.mono (fun k _ q => .inl (.inl (.inr q)))) (fun k hk => ks.block k (hown.ge k hk).2 (fun e => hpt' (e ▸ hk)))
  · intro k hk q
    exact hf k (hat ▸ hk) q
  · exact Rd.Sl.narrow Nat.one_pos (Rd.Sl.keep (Rd.Sl.keep h1 (kg.mono (fun k _ q => .inr q))) (ks.mono (fun k _ q => .inl (.inl (.inr q))))) (fun k _ q => hN k q)
  · exact ((h2.keep (kg.mono (fun k _ q => .inr q))).keep (ks.mono (fun k _ q => .inl (.inl (.inr q))))).narrow Nat.one_pos (fun k _ q => hN k q)
  · exact (kg.mono (fun k _ q => .inr (.inr (.inr q)))).trans (ks.mono (fun k _ q => .inl q))
/-- One part for some, in an own row. -/
theorem own_repl {F : Nat → Prop} {w w' : World} {g n cap f t : Nat} {s : Sch} {l : List (List Row)} {cur cur' : Array Value} {xs : List Value} {new : List Row} {pg : Nat}
    (hg : w.heap[g]? = some (.cells cur 88 (0, 0))) (hxs : cur.toList.take n = xs) (hC : ∀ k x, l[k]? = some x → (rdPart s).C (Fv F (.slice (some ⟨g, 0, none⟩) n cap)) w ((xs.drop (k * 1)).take 1) x) (hnl : l.length = n) (hxl : xs.length = n) (hft : f + 2 ≤ t) (ht : t ≤ n) (hcap : n ≤ cap) (hcm : cap ≤ maxLen)
    (hg' : w'.heap[g]? = some (.cells cur' 88 (0, 0))) (hsz : cur'.size = cap) (htk : cur'.toList.take (f + 1 + (n - t)) = cur.toList.take f ++ [PX pg] ++ (cur.toList.drop t).take (n - t)) (k : Keep (fun i => i = g) w w') (hp : PartAt (Fv F (.slice (some ⟨g, 0, none⟩) n cap)) w pg s new) :
    (rdPart s).Own F 0 88 w' (.slice (some ⟨g, 0, none⟩) (f + 1 + (n - t)) cap) (l.take f ++ [new] ++ l.drop t) := by
  have e1 : cur.toList.take f = xs.take f := by rw [← hxs, List.take_take, Nat.min_eq_left (by omega)]
  have e2 : (cur.toList.drop t).take (n - t) = xs.drop t := by rw [← hxs, List.drop_take]
  rw [e1, e2] at htk
  have hkv : Keep (Fv F (.slice (some ⟨g, 0, none⟩) n cap)) w w' := k.mono (fun i _ q => .inr (by rw [q]; rfl))
  have hL : (l.take f ++ [new] ++ l.drop t).length = f + 1 + (n - t) := by simp; omega
  have hX : (xs.take f ++ [PX pg] ++ xs.drop t).length = f + 1 + (n - t) := by simp; omega
  refine ⟨xs.take f ++ [PX pg] ++ xs.drop t, ⟨by rw [hX, hL]; exact (Nat.mul_one _).symm, .inr ⟨g, cap, cur', by rw [hL], Nat.zero_le _, hg', by rw [hL]; omega, hcm, by rw [hsz]; exact (Nat.mul_one _).symm, by rw [hL]; exact (congrArg (fun m => cur'.toList.take m) (Nat.mul_one _)).trans htk⟩⟩, fun i x hi => ?_⟩
  refine (rdPart s).keep hkv ?_
  show (rdPart s).C (Fv F (.slice (some ⟨g, 0, none⟩) n cap)) w (((xs.take f ++ [PX pg] ++ xs.drop t).drop (i * 1)).take 1) x
  rw [Nat.mul_one]
  have hlf : (l.take f).length = f := by rw [List.length_take]; omega
  have hxf : (xs.take f).length = f := by rw [List.length_take]; omega
  have one : ∀ (ys : List Value) (j : Nat) (v : Value), ys[j]? = some v → (ys.drop j).take 1 = [v] := fun ys j v hv => by
    obtain ⟨h1, h2⟩ := List.getElem?_eq_some_iff.1 hv
    rw [List.drop_eq_getElem_cons h1, h2]; rfl
  have hcx : ∀ j y, l[j]? = some y → ∃ v, xs[j]? = some v ∧ (rdPart s).C (Fv F (.slice (some ⟨g, 0, none⟩) n cap)) w [v] y := fun j y hj => by
    have hjl := (List.getElem?_eq_some_iff.1 hj).1
    have h0 := hC j y hj
    have hv : xs[j]? = some (xs[j]'(by omega)) := List.getElem?_eq_getElem _
    rw [Nat.mul_one, one xs j _ hv] at h0
    exact ⟨_, hv, h0⟩
  rcases Nat.lt_trichotomy i f with q | q | q
  · rw [List.append_assoc, List.getElem?_append_left (by omega), List.getElem?_take, if_pos q] at hi
    obtain ⟨v, hv, hc⟩ := hcx i x hi
    rw [one _ i v (by rw [List.append_assoc, List.getElem?_append_left (by omega), List.getElem?_take, if_pos q]; exact hv)]
    exact hc
  · subst q
    rw [List.append_assoc, List.getElem?_append_right (by omega), hlf, Nat.sub_self] at hi
    cases hi
    rw [one _ i (PX pg) (by rw [List.append_assoc, List.getElem?_append_right (by omega), hxf, Nat.sub_self]; rfl)]
    exact ⟨pg, rfl, hp⟩
  · have hlf1 : (l.take f ++ [new]).length = f + 1 := by rw [List.length_append, hlf]; rfl
    have hxf1 : (xs.take f ++ [PX pg]).length = f + 1 := by rw [List.length_append, hxf]; rfl
    rw [List.getElem?_append_right (by omega), hlf1, List.getElem?_drop] at hi
    obtain ⟨v, hv, hc⟩ := hcx _ x hi
    rw [one _ i v (by rw [List.getElem?_append_right (by omega), hxf1, List.getElem?_drop]; exact hv)]
    exact hc
end K84
namespace K85
open Go Go.RowKit Go.Lib
open KB KB2 K1 K5 K7 K9 K12 P1 P2 P3 P5 K17 K19 K25 K31 K32 K35 K38 K42 K45 K54 K57 K67 K68 K70 K72 K74 P8 K75 K82 K83 K84
set_option linter.unusedVariables false
set_option linter.unusedSimpArgs false
set_option maxHeartbeats 2000000
set_option maxRecDepth 100000
/-- Files removed, one by one. -/
def rmD (D : Dsk) (l : List Int) : Dsk := l.foldl (fun D n => removedD D (nameS n.toNat)) D
theorem rmD_snoc (D : Dsk) (l : List Int) (n : Int) : rmD D (l ++ [n]) = removedD (rmD D l) (nameS n.toNat) := by simp [rmD]
theorem rmD_lim (D : Dsk) (l : List Int) : (rmD D l).lim = D.lim + 2 * l.length := by
  induction l generalizing D with
  | nil => rfl
  | cons n l ih =>
    show (rmD (removedD D _) l).lim = _
    rw [ih]; simp [removedD]; omega
theorem replaceC (w : World) (g cap i j n : Nat) (cur : Array Value) (hg : w.heap[g]? = some (.cells cur 88 (0, 0))) (hsz : cur.size = cap) (hij : i + 2 ≤ j) (hjn : j ≤ n) (hnc : n ≤ cap) (hcb : cap ≤ 9223372036854775807) (hone : ∀ k u, k < n → cur[k]? = some u → u.oneCell' = true) (q : Nat) (v : Value) (hv : w.cell? ⟨q, 0, none⟩ = some v) (h1 : v.oneCell' = true) :
    Calls Tryz.prog 81 #[.slice (some ⟨g, 0, none⟩) n cap, .int .i64 i, .int .i64 j, .slice (some ⟨q, 0, none⟩) 1 1] w fun e w' => ∃ cur', e = .returned (.slice (some ⟨g, 0, none⟩) (i + 1 + (n - j)) cap) ∧ w'.heap[g]? = some (.cells cur' 88 (0, 0)) ∧ cur'.size = cap ∧ cur'.toList.take (i + 1 + (n - j)) = cur.toList.take i ++ [v] ++ (cur.toList.drop j).take (n - j) ∧ Keep (fun k => k = g) w w' := by
  by_cases h : j = n
  · subst h
    refine (replaceEndC w g cap i j cur hg hsz hij hnc hcb q v hv h1).mono ?_
    rintro e w' ⟨c2, h1, h2, h3, h4, h5⟩
    refine ⟨c2, by rw [h1]; simp, h2, h3, ?_, h5⟩
    rw [Nat.sub_self, Nat.add_zero, h4]; simp
  · exact replaceMidC w g cap i j (n - j) n cur hg hsz hij (by omega) (by omega) hnc hcb (fun k u _ hk hu => hone k u hk hu) q v hv h1
theorem store_disk {F : Nat → Prop} {w w' : World} {tg dg mg : Nat} {pv : Value} {S : StM} {D : Dsk} (h : StoreAt F w tg dg mg pv S) (hd : DiskAt (Fv (fun k => F k ∨ k = tg) pv) w' dg mg D) (k : Keep (Two' dg mg) w w') : StoreAt F w' tg dg mg pv { S with D := D } := by
  obtain ⟨ft, td, tm, _, hpp, hf, A, c, Ai, ci, hb, h1, h2⟩ := h
  have kS : Keep (Fv (SF F tg dg mg) pv) w w' := k.mono (fun _ _ q => .inl (.inr q))
  exact ⟨ft, td, tm, hd, hpp.keep2 kS (fun g hg => k.block g (hpp.ge g hg).2 (fun q => hf g hg (.inr q))), hf, A, c, Ai, ci, k.blk (fun q => q.elim td tm) hb, Rd.Sl.keep h1 kS, h2.keep kS⟩
theorem mergeSC (F : Nat → Prop) (tg dg mg : Nat) (pv : Value) (S : StM) (hs : S.s.Ok) (f t : Nat) (hft : f + 2 ≤ t) (ht : t ≤ S.parts.length) (hil : S.ids.length = S.parts.length) (hpn : S.parts.length ≤ 40) (w : World) (h : StoreAt F w tg dg mg pv S)
    (new : List Row) (hro : PartOk S.s new) (hrl : ∀ x ∈ S.parts, x.length ≤ 1000000 ∧ ∀ r ∈ x, r.length ≤ 1000)
    (hfold : ∀ W Ax cx A c, Ext w W → SchAt (Fv (SF F tg dg mg) pv) W Ax cx S.s → rdRows.Sl (Fv (SF F tg dg mg) pv) W A c ((S.parts.take t).drop f) → Calls Tryz.prog 80 #[schV Ax cx S.s, .slice A ((S.parts.take t).drop f).length c] W fun e w' => ∃ A' c', e = .returned (.slice A' new.length c') ∧ rdRow.Sl (Fv (SF F tg dg mg) pv) w' A' c' new ∧ Ext W w')
    (old : List Int) (hold : old = (S.ids.take t).drop f) (hov : ∀ n ∈ old, 0 ≤ n ∧ n < 100) (hnb : ∀ i (hi : i < f) (h1 : i < S.ids.length) (h0 : 0 < old.length), S.ids[i] ≠ old[0]) (hnx : S.next < 100)
    (hl : S.D.lim + 120 ≤ 100000) (hM : S.D.M.length < 200) (hno : getA (nameS S.next) S.D.M = none) (hem : getA ⟨#[]⟩ S.D.M = none)
    (li : Nat) (hli : getA logS S.D.M = some li) (lg : List Int) (ls : Int) (hlf : S.D.files[li]? = some (lg, ls)) (hu : used S.D.fs + (partB S.s new).length + (recSwap old S.next).length ≤ S.D.quota) (hls : lg.length + (recSwap old S.next).length ≤ 10000000)
    (hrm : ∀ k (hk : k < old.length), ∃ i, getA (nameS (old[k]).toNat) (rmD (wroteD S.D (nameS S.next) (partB S.s new) li (lg ++ recSwap old S.next)) (old.take k)).M = some i)
    (hF : ∀ k, F k → k < w.heap.size) :
    Calls Tryz.prog 32 #[PX tg, .int .i64 f, .int .i64 t] w fun e w' => e = .returned (.int .i64 0) ∧ ∃ pv', StoreAt F w' tg dg mg pv' ⟨S.s, S.ids.take f ++ ((S.next : Int) :: S.ids.drop t), S.next + 1, S.parts.take f ++ [new] ++ S.parts.drop t, rmD (wroteD S.D (nameS S.next) (partB S.s new) li (lg ++ recSwap old S.next)) old⟩ ∧ pv'.ownBlock = pv.ownBlock ∧ Keep (SB tg dg mg pv) w w' := by
  have hSF := SFlt h hF
  have hge := h.parts.ge
  have hFP : ∀ k, Fv (SF F tg dg mg) pv k → k < w.heap.size := fun k q => q.elim (hSF k) (fun q => (hge k q).2)
  obtain ⟨A, c, Ai, ci, hb, hA, hi⟩ := h.at_
  have hown := h.parts
  obtain ⟨xs, ho, hC⟩ := h.parts
  rcases ho.2 with ⟨he, hn0⟩ | ⟨g, cap, cur, rfl, -, hcur, hnc, hcm, hcs, htake⟩
  · omega
  have hfar := h.far g rfl
  have hmay : K59.may S.parts.length f t = true := by simp [K59.may]; omega
  have hmc := K59.mayC S.parts.length f t (by omega) (by omega) (by omega)
  rw [hmay] at hmc
  have holdl : old.length = t - f := by rw [hold, List.length_drop, List.length_take]; omega
  obtain ⟨d, hd⟩ : ∃ d, t - f = d := ⟨_, rfl⟩
  rw [hd] at holdl
  obtain ⟨A1, hcut, hS1⟩ := hi.cut elInt f t d (f : Int) (t : Int) (by omega) (by omega) rfl rfl hd
  rw [← hold] at hS1
  have hmid := fun W => own_mid' elPart g S.parts.length cap f t (by omega) ht hnc (by omega) .i64 .i64 W
  rw [hd] at hmid
  have HMC := As.mk hmc
  have HF := As.mk hfold
  have HR := As.mk hrm
  have HO := As.mk hold
  have HOL := As.mk holdl
  have HU := As.mk hu
  have HNB := As.mk hnb
  have HIL := As.mk hil
  clear hmc hfold hrm hold holdl hu hnb hil
  have hfi : (f : Int) ≤ (t : Int) := by omega
  (have p0 := blk_cell (hb) 0; have p1 := blk_cell (hb) 1; have p2 := blk_cell (hb) 2; have p3 := blk_cell (hb) 3; have p4 := blk_cell (hb) 4; have p5 := blk_cell (hb) 5; have p6 := blk_cell (hb) 6; have p7 := blk_cell (hb) 7; have p8 := blk_cell (hb) 8)
  go_enter Tryz.func32, Tryz.ntmps32
  go_wp2_with (fail)
  refine (HMC.out w).mono ?_; rintro e w1 ⟨rfl, hw⟩; rw [hw]; clear hw
  go_wp2_with (fail)
  have hcl := cloneI _ A1 (ci - f) old w hS1 (by rw [HOL.out]; omega) hFP
  rw [HOL.out] at hcl
  refine hcl.mono ?_; rintro e w1 ⟨Ao, co, rfl, hso, hE1⟩
  clear p0 p1 p2 p3 p4 p5 p6 p7 p8 hcl hcut
  (have p0 := blk_cell (hE1.blk hb) 0; have p1 := blk_cell (hE1.blk hb) 1; have p2 := blk_cell (hE1.blk hb) 2; have p3 := blk_cell (hE1.blk hb) 3; have p4 := blk_cell (hE1.blk hb) 4; have p5 := blk_cell (hE1.blk hb) 5; have p6 := blk_cell (hE1.blk hb) 6; have p7 := blk_cell (hE1.blk hb) 7; have p8 := blk_cell (hE1.blk hb) 8)
  go_wp2_with (fail)
  have HM : As (((S.parts.take t).drop f).length = d) := ⟨by rw [List.length_drop, List.length_take]; omega⟩
  obtain ⟨mid, hmd⟩ : ∃ mid, mid = (S.parts.take t).drop f := ⟨_, rfl⟩
  rw [← hmd] at HM HF
  have HMD := As.mk hmd
  clear hmd
  have hF1 := FExt hFP hE1
  go_loopw [8, 47] (fun v i wr => ∃ k : Nat, i = .int .i64 k ∧ k ≤ d ∧ rdRows.Own (Fv (SF F tg dg mg) (.slice (some ⟨g, 0, none⟩) S.parts.length cap)) w1.heap.size 42 wr v (mid.take k) ∧ Ext w1 wr) (fun _ i _ => d - (intOf i).toNat)
  case atStart => exact ⟨0, by go_num, Nat.zero_le _, Rd.Own.nil _ _ _ _ _, Ext.refl _⟩
  case round =>
    obtain ⟨k, rfl, hkd, howr, hE⟩ := hrel
    by_cases hlt : k < d
    · have hkp : f + k < S.parts.length := by omega
      obtain ⟨cs, ⟨pg, rfl, hpg⟩, hcc, -⟩ := (hown.ext hE1).cellj hkp
      have hc0 : wr.cell? ⟨g, f + k, none⟩ = some (PX pg) := hE.cell (by
        have q := hcc 0 _ rfl
        rw [show (f + k) * (K71.rdPart S.s).sz + 0 = f + k from Nat.mul_one _] at q
        exact q)
      have hkm : k < mid.length := by rw [HM.out]; exact hlt
      have hme : mid[k] = S.parts[f + k] := by simp [HMD.out]
      rw [← hme] at hpg
      have hrk := hrl mid[k] (by rw [hme]; exact List.getElem_mem _)
      have HT := As.mk (take_snoc mid hkm)
      have HTL : As ((mid.take k).length ≤ 1000) := ⟨by rw [List.length_take]; omega⟩
      have hgr := howr.ge
      have hpg2 := (part_narrow (G := Fv (Fv (SF F tg dg mg) (.slice (some ⟨g, 0, none⟩) S.parts.length cap)) u8) hpg (fun j hj q => q.elim id (fun e => absurd (hgr j e).1 (by omega)))).ext hE
      have hall := K20.allC _ pg S.s mid[k] wr hpg2 hrk.1 hrk.2 (fun j q => q.elim (FExt hF1 hE j) (fun e => (hgr j e).2))
      have HALL := As.mk hall
      clear hall hcc hme
      go_wp2_with (first | (go_at_call 79; refine HALL.out.mono ?_; rintro e w2 ⟨A2, c2, rfl, hs2, hE2⟩) | (at_builtin; refine wpList_push rfl (.tmp 51) (.tmp 54) 51 rfl rdRows elRows rfl ((howr.ext hE2).ext ((Ext.refl w2).alloc _)) rfl (heap_alloc_new w2 _) (y := mid[k]) (sl_Cn (hs2.ext ((Ext.refl w2).alloc _)) rfl) (by have := HTL.out; omega) (by have := HTL.out; unfold maxLen; omega) (by have := hE.size; have := hE2.size; simp; omega) ((hE.trans hE2).alloc _) ?_; intro v' w3 hown3 hg3 hE3))
      rw [← HT.out] at hown3
      go_roundw
      case rel => exact ⟨k + 1, by go_num, by omega, hown3, hE3⟩
      case measure => simp [intOf] <;> omega
    · obtain rfl : k = d := by omega
      rw [List.take_of_length_le (by rw [HM.out]; exact Nat.le_refl _)] at howr
      obtain ⟨Am, cm2, rfl, hsm⟩ := howr.shut hF1
      have hEw := hE1.trans hE
      have hbr := hEw.blk hb
      have hAr := Rd.Sl.ext hA hEw
      have hfo := HF.out wr A c Am cm2 hEw hAr hsm
      rw [HM.out] at hfo ⊢
      have HFO := As.mk hfo
      clear hfo p0 p1 p2 p3 p4 p5 p6 p7 p8
      (have p0 := blk_cell (hbr) 0; have p1 := blk_cell (hbr) 1; have p2 := blk_cell (hbr) 2; have p3 := blk_cell (hbr) 3; have p4 := blk_cell (hbr) 4; have p5 := blk_cell (hbr) 5; have p6 := blk_cell (hbr) 6; have p7 := blk_cell (hbr) 7; have p8 := blk_cell (hbr) 8)
      go_wp2_with (fail)
      refine HFO.out.mono ?_; rintro e w2 ⟨An, cn, rfl, hsn, hE2⟩
      clear p0 p1 p2 p3 p4 p5 p6 p7 p8
      have hEw2 := hEw.trans hE2
      have h2 := h.ext hEw2
      have hF2 := FExt hF hEw2
      have hFP2 := FExt hFP hEw2
      have hso2 := hso.ext (hE.trans hE2)
      have hftk : f + old.length = t := by rw [HOL.out]; omega
      have hperm : ∀ j, DF (Fv (fun k => F k ∨ k = tg) (.slice (some ⟨g, 0, none⟩) S.parts.length cap)) dg mg j → Fv (SF F tg dg mg) (.slice (some ⟨g, 0, none⟩) S.parts.length cap) j := fun j q => by
        rcases q with (q | q) | q
        · exact .inl (.inl q)
        · exact .inr q
        · exact .inl (.inr q)
      have hwr := writeSC F tg dg mg _ S hs new hro w2 h2 hnx (by omega) hM hno hem li hli lg ls hlf 3 Ao k co (recSwap old S.next) (S.ids.take f ++ ((S.next : Int) :: S.ids.drop t)) HU.out hls An cn hsn
        (fun W kW => by
          have q := putSwapC (DF (Fv (fun k => F k ∨ k = tg) (.slice (some ⟨g, 0, none⟩) S.parts.length cap)) dg mg) Ao co old S.next (by omega) W ((hso2.keep (kW.mono (fun j _ q => .inl q))).narrow (by decide) (fun j _ q => hperm j q)) (by rw [HOL.out]; omega) (by rw [HOL.out]; omega) (fun n hn => by have := hov n hn; omega) (fun j q => Nat.lt_of_lt_of_le (hFP2 j (hperm j q)) kW.size)
          rw [HOL.out] at q
          exact q)
        (fun W A' c' Ai' ci' kW hii => by
          have q := applySwapC (Fv (SF F tg dg mg) (.slice (some ⟨g, 0, none⟩) S.parts.length cap)) A' Ai' Ao c' ci' co S.s S.ids S.next S.next (by omega) (Int.le_refl _) (by rw [HIL.out]; omega) old f (by rw [hftk, HIL.out]; exact ht) (by rw [HOL.out]; omega) (by rw [hftk]; exact HO.out.symm) (fun i hi => HNB.out i hi _ (by rw [HOL.out]; omega)) (fun n hn => by have := hov n hn; omega) W hii (hso2.keep (kW.mono (fun j _ q => .inl q))) (fun j q => Nat.lt_of_lt_of_le (hFP2 j q) kW.size)
          rw [hftk, HOL.out] at q
          exact q) hF2
      have HWR := As.mk hwr
      clear hwr hftk
      go_wp2_with (fail)
      refine HWR.out.mono ?_; rintro e w3 ⟨pg, rfl, hpg, hp3, h3, k3⟩
      obtain ⟨A3, c3, Ai3, ci3, hb3, hA3, hi3⟩ := h3.at_
      have hgn : ¬ (g = tg ∨ g = dg ∨ g = mg) := by
        rintro (q | q | q)
        · exact hfar (.inl (.inr q))
        · exact hfar (.inr (.inl q))
        · exact hfar (.inr (.inr q))
      have hcur3 := k3.blk hgn (hEw2.blk hcur)
      have hone : ∀ j u, j < S.parts.length → cur[j]? = some u → u.oneCell' = true := fun j u hj hu => by
        have hx := hC j _ (List.getElem?_eq_getElem hj)
        refine (K71.rdPart S.s).one hx u ?_
        have hju : xs[j]? = some u := by rw [← htake, List.getElem?_take, if_pos (by rw [show (K71.rdPart S.s).sz = 1 from rfl]; omega), Array.getElem?_toList]; exact hu
        rw [show (K71.rdPart S.s).sz = 1 from rfl, Nat.mul_one]
        obtain ⟨q1, q2⟩ := List.getElem?_eq_some_iff.1 hju
        rw [List.drop_eq_getElem_cons q1, q2]; simp
      have hEa := (Ext.refl w3).alloc (.cells #[PX pg] 88)
      have hba := hEa.blk hb3
      have hrep := replaceC (w3.alloc (.cells #[PX pg] 88)) g cap f t S.parts.length cur (hEa.blk hcur3) (by rw [hcs]; exact Nat.mul_one _) hft ht hnc hcm hone w3.heap.size (PX pg) (by rw [blk_cell (blk_new w3 _)]; rfl) rfl
      have HREP := As.mk hrep
      clear hrep
      (have p0 := blk_cell (hb3) 0; have p1 := blk_cell (hb3) 1; have p2 := blk_cell (hb3) 2; have p3 := blk_cell (hb3) 3; have p4 := blk_cell (hb3) 4; have p5 := blk_cell (hb3) 5; have p6 := blk_cell (hb3) 6; have p7 := blk_cell (hb3) 7; have p8 := blk_cell (hb3) 8)
      (have q0 := blk_cell (hba) 0; have q1 := blk_cell (hba) 1; have q2 := blk_cell (hba) 2; have q3 := blk_cell (hba) 3; have q4 := blk_cell (hba) 4; have q5 := blk_cell (hba) 5; have q6 := blk_cell (hba) 6; have q7 := blk_cell (hba) 7; have q8 := blk_cell (hba) 8)
      go_wp2_with (fail)
      refine HREP.out.mono ?_; rintro e w4 ⟨cur', rfl, hg4, hz4, htk4, k4⟩
      clear p0 p1 p2 p3 p4 p5 p6 p7 p8 q0 q1 q2 q3 q4 q5 q6 q7 q8
      have hgt : ¬ tg = g := fun e => hgn (.inl e.symm)
      have hb4 := k4.blk hgt hba
      (have p0 := blk_cell (hb4) 0; have pf0 := blk_froz (hb4) 0; have p1 := blk_cell (hb4) 1; have pf1 := blk_froz (hb4) 1; have p2 := blk_cell (hb4) 2; have pf2 := blk_froz (hb4) 2; have p3 := blk_cell (hb4) 3; have pf3 := blk_froz (hb4) 3; have p4 := blk_cell (hb4) 4; have pf4 := blk_froz (hb4) 4; have p5 := blk_cell (hb4) 5; have pf5 := blk_froz (hb4) 5; have p6 := blk_cell (hb4) 6; have pf6 := blk_froz (hb4) 6; have p7 := blk_cell (hb4) 7; have pf7 := blk_froz (hb4) 7; have p8 := blk_cell (hb4) 8; have pf8 := blk_froz (hb4) 8)
      go_wp2_with (fail)
      have hFa : ∀ j, F j → j < (w3.alloc (.cells #[PX pg] 88)).heap.size := fun j q => by have := hF2 j q; have := k3.size; have := hEa.size; omega
      have k3S : Keep (Fv (SF F tg dg mg) (.slice (some ⟨g, 0, none⟩) S.parts.length cap)) w2 w3 := k3.mono (fun j _ q => by
        rcases q with q | q | q
        · exact .inl (.inl (.inr q))
        · exact .inl (.inr (.inl q))
        · exact .inl (.inr (.inr q)))
      have kwa := ((hEw2.keep _).trans k3S).post hEa
      have hrp := own_repl (F := SF F tg dg mg) (hEa.blk hcur3) (by rw [← htake]; exact (congrArg (fun m => cur.toList.take m) (Nat.mul_one _)).symm) (fun j x hx => (K71.rdPart S.s).keep kwa (hC j x hx)) rfl (ho.1.trans (Nat.mul_one _)) hft ht hnc hcm hg4 hz4 htk4 k4 (hp3.ext hEa)
      have hss := store_set (h3.ext hEa) hFa hrp (k4.mono (fun j _ q => by rw [q]; rfl)) rfl
      obtain ⟨h5, k5⟩ := hss
      have hso5 := ((hso2.keep k3S).ext hEa)
      have kg5 : Keep (Fv (SF F tg dg mg) (.slice (some ⟨g, 0, none⟩) S.parts.length cap)) (w3.alloc (.cells #[PX pg] 88)) (w4.setCell ⟨tg, 7, none⟩ (.slice (some ⟨g, 0, none⟩) (f + 1 + (S.parts.length - t)) cap)) :=
        (k4.mono (fun j _ q => .inr (by rw [q]; rfl))).trans ((keep_set1 _ _ _ _).mono (fun j _ q => .inl (.inl (.inr q))))
      replace hso5 := hso5.keep kg5
      have hb5 := blk_set hb4 7 (.slice (some ⟨g, 0, none⟩) (f + 1 + (S.parts.length - t)) cap)
      have kw5 := kwa.trans kg5
      have hFw5 : ∀ j, F j → j < (w4.setCell ⟨tg, 7, none⟩ (.slice (some ⟨g, 0, none⟩) (f + 1 + (S.parts.length - t)) cap)).heap.size := fun j q => Nat.lt_of_lt_of_le (hF j q) kw5.size
      have kAll : Keep (SB tg dg mg (.slice (some ⟨g, 0, none⟩) S.parts.length cap)) w (w4.setCell ⟨tg, 7, none⟩ (.slice (some ⟨g, 0, none⟩) (f + 1 + (S.parts.length - t)) cap)) :=
        (((hEw2.keep _).trans (k3.mono (fun j _ q => by
          rcases q with q | q | q
          · exact .inl q
          · exact .inr (.inl q)
          · exact .inr (.inr (.inl q))))).post hEa).trans k5
      clear p0 p1 p2 p3 p4 p5 p6 p7 p8 pf0 pf1 pf2 pf3 pf4 pf5 pf6 pf7 pf8
      obtain ⟨pv', hpv'⟩ : ∃ pv', pv' = Value.slice (some ⟨g, 0, none⟩) (f + 1 + (S.parts.length - t)) cap := ⟨_, rfl⟩
      rw [← hpv'] at h5 hb5 kw5 hFw5 kAll hso5 ⊢
      generalize w4.setCell ⟨tg, 7, none⟩ pv' = w5 at *
      have HPV := As.mk hpv'
      clear hpv'
      have hlen := HOL.out
      have HL2 := As.mk hlen
      clear hlen
      have hlt5 := h5.disk.lt
      have hst0 : StoreAt F w5 tg dg mg pv' ⟨S.s, S.ids.take f ++ ((S.next : Int) :: S.ids.drop t), S.next + 1, S.parts.take f ++ [new] ++ S.parts.drop t, rmD (wroteD S.D (nameS S.next) (partB S.s new) li (lg ++ recSwap old S.next)) (old.take 0)⟩ := h5
      obtain ⟨ids', hids'⟩ : ∃ l, l = S.ids.take f ++ ((S.next : Int) :: S.ids.drop t) := ⟨_, rfl⟩
      obtain ⟨parts', hparts'⟩ : ∃ l, l = S.parts.take f ++ [new] ++ S.parts.drop t := ⟨_, rfl⟩
      obtain ⟨DW, hDW⟩ : ∃ D, D = wroteD S.D (nameS S.next) (partB S.s new) li (lg ++ recSwap old S.next) := ⟨_, rfl⟩
      have hDl : DW.lim = S.D.lim + 8 := by rw [hDW]; rfl
      rw [← hids', ← hparts', ← hDW] at hst0
      rw [← hDW] at HR
      have HQ := As.mk (And.intro hids' (And.intro hparts' hDW))
      clear h5 k5 h3 h2 hrp hids' hparts' hDW hC hown
      go_loopw [88] (fun i wr => ∃ j : Nat, i = .int .i64 j ∧ j ≤ k ∧ StoreAt F wr tg dg mg pv' ⟨S.s, ids', S.next + 1, parts', rmD DW (old.take j)⟩ ∧ Keep (Two' dg mg) w5 wr) (fun i _ => k - (intOf i).toNat)
      case atStart => exact ⟨0, by go_num, Nat.zero_le _, hst0, Keep.refl _ _⟩
      case round =>
        obtain ⟨j, rfl, hjk, hst, hk⟩ := hrel
        by_cases hlt2 : j < k
        · have hjo : j < old.length := by rw [HL2.out]; exact hlt2
          obtain ⟨i, hi1⟩ := HR.out j hjo
          have hkF : Keep (Fv (SF F tg dg mg) (.slice (some ⟨g, 0, none⟩) S.parts.length cap)) w5 wr := hk.mono (fun _ _ q => .inl (.inr q))
          obtain ⟨ba, oa, rfl, hca⟩ := int_get (hso5.keep hkF) hjo
          have hv := hov old[j] (List.getElem_mem _)
          obtain ⟨m, hm⟩ : ∃ m : Nat, old[j] = (m : Int) := ⟨old[j].toNat, by omega⟩
          rw [hm] at hca hi1 hv
          rw [Int.toNat_natCast] at hi1
          have hT := take_snoc old hjo
          rw [hm] at hT
          have hlim := rmD_lim DW (old.take j)
          rw [List.length_take, Nat.min_eq_left (by omega)] at hlim
          have hbt := hk.blk (fun q => q.elim hst.td hst.tm) hb5
          have hF' : ∀ i, Fv (fun k => F k ∨ k = tg) pv' i → i < wr.heap.size := fun i q => by
            rcases q with (q | q) | q
            · exact Nat.lt_of_lt_of_le (hFw5 i q) hk.size
            · rw [q]; exact blk_lt hbt
            · exact (hst.parts.ge i q).2
          have hrc := fun W (hW : Ext wr W) => removeC (Fv (fun k => F k ∨ k = tg) pv') dg mg (rmD DW (old.take j)) W (hst.disk.ext hW) (by omega) (nameS m) (by have := nameS_size m (by omega); omega) i hi1 (FExt hF' hW)
          have HRC := As.mk hrc
          have c0 := blk_cell hbt 0
          have hm100 : m < 100 := by omega
          clear hrc hm hv hi1
          go_wp2_with (fail)
          go_region_law (first | (go_simp; go_at_call 63; refine (nameC m hm100 _).mono ?_; rintro e w' ⟨rfl, hw⟩; rw [hw]; clear hw; dsimp only) | (go_simp; go_at_call 69; with_reducible refine Calls.mono (HRC.out _ ?_) ?_; exact (by (repeat (first | with_reducible refine Ext.drew ?_ | with_reducible refine Ext.drewN ?_ _ | with_reducible refine Ext.alloc ?_ _)); first | with_reducible assumption | with_reducible exact Ext.refl _); rintro e w6 ⟨rfl, hd6, k6⟩; dsimp only))
          all_goals
            (try simp only [Exit.inBlock, Exit.then])
            go_wp2_with (fail)
            have hst6 := store_disk hst hd6 (k6.pre (by (repeat (first | with_reducible refine Ext.drew ?_ | with_reducible refine Ext.drewN ?_ _ | with_reducible refine Ext.alloc ?_ _)); first | with_reducible assumption | with_reducible exact Ext.refl _))
            go_roundw
            case rel => exact ⟨j + 1, by go_num, by omega, by rw [hT, rmD_snoc]; exact hst6, hk.trans (k6.pre (by (repeat (first | with_reducible refine Ext.drew ?_ | with_reducible refine Ext.drewN ?_ _ | with_reducible refine Ext.alloc ?_ _)); first | with_reducible assumption | with_reducible exact Ext.refl _))⟩
            case measure => simp [intOf] <;> omega
        · obtain rfl : j = k := by omega
          rw [List.take_of_length_le (by rw [HL2.out]; exact Nat.le_refl _), HQ.out.1, HQ.out.2.1, HQ.out.2.2] at hst
          go_wp2_with (fail)
          go_ret
          exact ⟨rfl, pv', hst, by rw [HPV.out]; rfl, kAll.trans (hk.mono (fun i _ q => q.elim (fun q => .inr (.inl q)) (fun q => .inr (.inr (.inl q)))))⟩
end K85
namespace P10
open Num KB K1 K3 K5 K8 K14 K17 K25 P4 P5 P6 P8 P9 K35 K38 K54 K56 K57 K58 K72 K75 K77 K79 K87
set_option linter.unusedVariables false
set_option linter.unusedSimpArgs false
theorem le4_len (x : Nat) : (le4 x).length = 4 := rfl
theorem frame_len (b : List Int) (h : b.length < 128) : (frame b).length = b.length + 5 := by
  rw [frame, pv_small h, List.length_append, List.length_append, le4_len]; simp; omega
theorem recAdd_len (id : Nat) (h : id < 128) : (recAdd id).length = 7 := by
  have hb : (bodyAdd id).length = 2 := by rw [bodyAdd, pv_small h]; rfl
  rw [recAdd, frame_len _ (by omega), hb]
theorem putN_len (l : List Int) (h : ∀ n ∈ l, 0 ≤ n ∧ n < 128) : (putN l).length = l.length := by
  induction l with
  | nil => rfl
  | cons n l ih =>
    have h0 := h n (List.mem_cons_self ..)
    rw [putN_cons, List.length_append, ih (fun m hm => h m (List.mem_cons_of_mem _ hm)), pv_small (by omega)]
    simp; omega
theorem recHead_len (s : Sch) (hs : s.Ok) (ids : List Int) (hn : ids.length ≤ 40) (hv : ∀ n ∈ ids, 0 ≤ n ∧ n < 128) (id : Nat) (h : id < 128) : (recHead s ids id).length ≤ 120 := by
  have h1 := putSch_le s hs
  have hb : (bodyHead s ids id).length ≤ 112 := by
    simp only [bodyHead, List.length_append, putN_len ids hv]
    rw [pv_small (by omega : (putSch s).length < 128), pv_small h, pv_small (by omega : ids.length < 128)]
    simp; omega
  rw [recHead, frame_len _ (by omega)]; omega
theorem recSwap_len (ids : List Int) (hn : ids.length ≤ 40) (hv : ∀ n ∈ ids, 0 ≤ n ∧ n < 128) (id : Nat) (h : id < 128) : (recSwap ids id).length ≤ 50 := by
  have hb : (bodySwap ids id).length ≤ 43 := by
    simp only [bodySwap, List.length_append, putN_len ids hv]
    rw [pv_small h, pv_small (by omega : ids.length < 128)]
    simp; omega
  rw [recSwap, frame_len _ (by omega)]; omega
/-- A table that holds: its log, how many steps of work there were. -/
structure Tabl (s : Sch) (St : StM) (lg : List Int) (k : Nat) : Prop where
  sch : St.s = s
  len : St.ids.length = St.parts.length
  holds : Holds St.D s lg (St.ids.zip St.parts) St.ids
  room : Room St.D k 4000
  nx : ∀ n ∈ St.ids, 0 ≤ n ∧ n < St.next
  lgl : lg.length ≤ 50 * k + 200
  nl : St.ids.length ≤ k
  nk : St.next ≤ k
  clean : St.D.clean = true
theorem idsTo_mem {n : Nat} {x : Int} : x ∈ idsTo n ↔ 0 ≤ x ∧ x < n := by
  simp only [idsTo, List.mem_map, List.mem_range]
  constructor
  · rintro ⟨a, h, rfl⟩; omega
  · rintro ⟨h1, h2⟩; exact ⟨x.toNat, by omega, by omega⟩
theorem tabl_new (s : Sch) (hs : s.Ok) (q : Nat) (hq : q = 1048576) : Tabl s ⟨s, idsTo 0, 0, [], saved ⟨q, 0, 0, [], [], true⟩ (recHead s (idsTo 0) 0) 6⟩ (recHead s (idsTo 0) 0) 1 := by
  have hl := recHead_len s hs (idsTo 0) (by simp [idsTo]) (fun n hn => by simp [idsTo] at hn) 0 (by decide)
  refine ⟨rfl, rfl, ?_, ?_, fun n hn => by simp [idsTo] at hn, by omega, by simp [idsTo], Nat.zero_le _, rfl⟩
  · have : (idsTo 0).zip ([] : List (List Row)) = [] := by simp
    show Holds _ s _ ((idsTo 0).zip []) (idsTo 0)
    rw [this]
    exact holds0 _ rfl rfl s _
  · exact room_saved (k := 0) ⟨hq, Nat.le_refl _, fun f hf => (by cases hf), Nat.zero_le _⟩ _ (by omega)
theorem zip_snoc {α β : Type} (a : List α) (b : List β) (h : a.length = b.length) (x : α) (y : β) : (a ++ [x]).zip (b ++ [y]) = a.zip b ++ [(x, y)] := by
  rw [List.zip_append h]; rfl
end P10
namespace K105
open Go Go.RowKit
open KB KB2 P2 K1 K2 K3 K17 P5 P6 P8 P9 K25 K35 K38 K42 K54 K55 K56 K57 K58 K31 K65 K70 K71 K72 K75 K77 K81 K87 K88 K89 K91 K92 K93 K94 K95 K97 K5 P4 P10 K103 K104
set_option linter.unusedVariables false
set_option linter.unusedSimpArgs false
set_option maxHeartbeats 2000000
set_option maxRecDepth 100000
theorem tabl_ins {s : Sch} (hs : s.Ok) {St : StM} {lg : List Int} {k : Nat} (h : Tabl s St lg k) (hk : k < 99) (l : List Row) (hb : (partB s (sortS s l)).length ≤ 4000) (li : Nat) (hli : getA logS St.D.M = some li) (hll : 50 * (k + 1) + 200 ≤ 4000 ∨ k < 70) : Tabl s (insSt St l li lg) (lg ++ recAdd St.next) (k + 1) := by
  have hnk := h.nk
  have hrl : (recAdd St.next).length = 7 := recAdd_len _ (by omega)
  have hnot : (St.next : Int) ∉ St.ids := fun e => by have := h.nx _ e; omega
  have hlg := h.lgl
  obtain ⟨h1, h2, h3, h4, h5, h6, h7, h8, h9⟩ := h
  subst h1
  refine ⟨rfl, ?_, ?_, ?_, ?_, ?_, ?_, ?_, rfl⟩
  · show (St.ids ++ [(St.next : Int)]).length = (St.parts ++ [_]).length
    rw [List.length_append, List.length_append, h2]; rfl
  · show Holds (wroteD _ _ _ _ _) _ _ ((St.ids ++ [(St.next : Int)]).zip (St.parts ++ [sortS St.s l])) (St.ids ++ [(St.next : Int)])
    rw [zip_snoc _ _ h2]
    exact h3.wrote St.next (by omega) hnot _ li hli _
  · refine h4.wrote _ _ _ _ hb ?_
    rw [List.length_append, hrl]; omega
  · intro n hn
    rcases List.mem_append.1 hn with e | e
    · have := h5 n e
      show 0 ≤ n ∧ n < ((St.next + 1 : Nat) : Int)
      omega
    · simp at e
      show 0 ≤ n ∧ n < ((St.next + 1 : Nat) : Int)
      omega
  · rw [List.length_append, hrl]; omega
  · show (St.ids ++ [(St.next : Int)]).length ≤ k + 1
    rw [List.length_append]; simp; omega
  · show St.next + 1 ≤ k + 1
    omega
end K105
end Go.Proofs.YtbjeejimedhniaaGreatDoor
