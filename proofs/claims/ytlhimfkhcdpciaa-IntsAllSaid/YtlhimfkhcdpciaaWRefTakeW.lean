/-
  The walk of the reference's Take of numbers.
-/
import Derived.Test.YtlhimfkhcdpciaaWRefTake
namespace Go.Proofs.Ytlhimfkhcdpciaa.WRefTakeW
open Go.RowKit Go.Proofs.YtlhimfkhcdpciaaW.PrintWords Go.Proofs.YtlhimfkhcdpciaaW.PrintLast Go.Proofs.YtlhimfkhcdpciaaW.PrintMore Go.Proofs.Ytlhimfkhcdpciaa.Num Go.Proofs.Ytlhimfkhcdpciaa.Bits Go.Proofs.Ytlhimfkhcdpciaa.VarM Go.Proofs.Ytlhimfkhcdpciaa.CGet64 Go.Proofs.Ytlhimfkhcdpciaa.Ints Go.Proofs.Ytlhimfkhcdpciaa.IntsT Go.Proofs.Ytlhimfkhcdpciaa.Hold Go.Proofs.Ytlhimfkhcdpciaa.CRef Go.Proofs.Ytlhimfkhcdpciaa.RVar Go.Proofs.Ytlhimfkhcdpciaa.CRefTake Go.Proofs.Ytlhimfkhcdpciaa.WRefTake
open Go.Proofs.Ytlhimfkhcdpciaa.CTake2 (parts)
set_option linter.unusedVariables false
set_option linter.unusedSimpArgs false
attribute [local go_sem] max2_int min2_int max_two min_two max_three min_three max_four min_four

set_option maxHeartbeats 8000000 in
set_option maxRecDepth 100000 in
theorem take_wide (A : Option Addr) (c : Nat) (b : List Int) (w : World) (hr : Kd.C (Kd.int .u8) w A b.length b) (hc : b.length ≤ c) (hb : Bytes b) (hl : b.length < 1000000000) (n q : Nat) (hv : var b = ((n : Int), (q : Int))) (h0 : 1 ≤ q) (hn : n ≤ 2000) (hq : q < b.length)
    (hway : b.getD q 0 ≠ 1) (M : Option (List Int)) (hM : Fin (wideR (b.drop (q + 1)) (n)) b = M) :
    Calls Try.prog 15 #[.slice A b.length c] w (Post M w) := by
  have hvc := fun W h => refVar A c b W h hc hb
  rw [hv] at hvc
  have HV := Aside0.mk hvc
  clear hvc hv
  obtain ⟨ad, rfl, hcells⟩ := C_cells hr (by omega)
  have HC0 := Aside0.mk (hcells q hq)
  clear hcells
  obtain ⟨k, hk⟩ : ∃ k, b.getD q 0 = k := ⟨_, rfl⟩
  rw [hk] at HC0 hway
  clear hk
  have hway1 : (k == 1) = false := beq_eq_false_iff_ne.mpr hway
  have hpI : (q : Int) < (b.length : Int) := by omega
  have hg1 : decide ((2000 : Int) < (n : Int)) = false := decide_eq_false (by omega)
  have hg2 : decide ((b.length : Int) ≤ (q : Int)) = false := decide_eq_false (by omega)
  have hg3 : decide (b.length ≤ q) = false := decide_eq_false (by omega)
  have hp1 : ((q : Int) == 0) = false := beq_eq_false_iff_ne.mpr (by omega)
  have HR := Aside0.mk hr
  have hb2 := Aside0.mk hb
  have HM := Aside0.mk hM
  clear hr hb hM
  have hwr : wrap64 (n : Int) = (n : Int) := wrap64_id (by omega) (by omega)
  have hwr2 : IntKind.i64.wrap (n : Int) = (n : Int) := by rw [wrap_i64_eq]; exact hwr
  go_enter Try.func15, Try.ntmps15
  go_wp2_with (fail)
  refine (HV.out _ HR.out).mono ?_; rintro e w1 ⟨rfl, hb⟩
  have HB := Aside0.mk (below_step (Below.refl w.heap.size w) hb)
  replace HR := Aside0.mk (Kd.C_below HR.out hb)
  have hcell := pw_cell_below hb HC0.out
  clear HV HC0 hb
  go_wp2_with (fail)
  clear hcell hg1 hg2 hg3
  go_loopw [5, 7, 8, 9] (fun v5 v7 v8 v9 wr => ∃ (i a : Nat) (last : Int) (acc : List Int), v5 = .int .i64 a ∧ v8 = .int .i64 last ∧ v9 = .int .i64 i ∧ i ≤ n ∧ a ≤ b.length ∧ Aside0 (acc.length = i) ∧ Aside0 (I64 last) ∧ Aside0 (Now (wideR (b.drop (q + 1)) (n)) (wideR (b.drop a) (n - i)) acc) ∧ Aside0 (Kd.R (Kd.int .i64) 2 wr w1.heap.size (fun _ => True) v7 acc) ∧ Aside0 (Below w1.heap.size w1 wr)) (fun _ _ _ v9 _ => n - (intOf v9).toNat)
  case atStart => exact ⟨0, q + 1, 0, [], by go_num, rfl, rfl, by omega, by omega, ⟨rfl⟩, ⟨⟨by omega, by omega⟩⟩, ⟨Now.start⟩, ⟨R_empty 2 w1⟩, ⟨below_alloc (Below.refl _ _) _⟩⟩
  case round =>
    obtain ⟨i, a, last, acc, rfl, rfl, rfl, hin, hab, hacc, hlast, hnow, HO, HB1⟩ := hrel
    by_cases hi : i < n
    · obtain ⟨A2, hcut, h2, hc2⟩ := cutFrom (P := Try.prog) 26 5 Try.underlying26 RVar.info_u8 .u8 (some ad) c b (a : Int) (by omega) (by omega) hc
      rw [Int.toNat_natCast] at hcut h2 hc2
      have hD := h2 _ (Kd.C_below HR.out HB1.out)
      have hsub : n - i = (n - (i + 1)) + 1 := by omega
      have hnow2 := hnow.out
      rw [hsub] at hnow2
      have hDb : Bytes (b.drop a) := hb2.out.drop a
      obtain ⟨D, hDe⟩ : ∃ D, b.drop a = D := ⟨_, rfl⟩
      have hDl : D.length = b.length - a := by rw [← hDe, List.length_drop]
      have hdd : ∀ m, b.drop (a + m) = D.drop m := fun m => by rw [← hDe, List.drop_drop]
      rw [hDe] at hcut hc2 hD hnow2 hDb
      clear hDe h2
      have HD := Aside0.mk hD
      have HDb := Aside0.mk hDb
      have hiI : (i : Int) < (n : Int) := by omega
      have hin1 : i + 1 ≤ n := by omega
      have hmeas : n - (((i + 1 : Nat) : Int)).toNat < n - ((i : Int)).toNat := by omega
      have hmeas2 : n - ((i : Int) + 1).toNat < n - ((i : Int)).toNat := by omega
      have hgr : Aside0 (Now (wideR (b.drop (q + 1)) (n)) (wideR (D) ((n - (i + 1)) + 1)) acc) := ⟨hnow2⟩
      clear hnow2 hsub hD hDb hnow
      obtain ⟨G1, hG1⟩ : ∃ G1, (g64 D).1 = G1 := ⟨_, rfl⟩
      obtain ⟨G2, hG2⟩ : ∃ G2, (g64 D).2 = G2 := ⟨_, rfl⟩
      have HG : Aside0 (∀ W, Kd.C (Kd.int .u8) W A2 D.length D → Calls Try.prog 27 #[.slice A2 D.length (c - a)] W fun e w' => e = .returned (.tuple #[.int .u64 G1, .bool G2]) ∧ Drawn0 W w') := ⟨fun W h => by
        have h1 := refGet64 A2 (c - a) D W h hc2 HDb.out
        rw [hG1, hG2] at h1
        exact h1⟩
      have hstep := hgr.out
      rw [wideR] at hstep
      have Hstep := Aside0.mk hstep
      clear hstep
      by_cases h8 : D.length < 8
      · have hg : g64 D = (0, false) := if_pos h8
        rw [hg] at hG1 hG2
        subst hG1 hG2
        have hT := Hstep.out
        rw [if_pos h8] at hT
        have hMn : M = none := by rw [← HM.out, hT.none, Fin.none]
        subst hMn
        clear hT Hstep hgr hg hDl hdd
        go_wp2_with (first
          | (go_at_call 27; refine (HG.out _ HD.out).mono ?_; rintro e w2 ⟨rfl, ⟨nd, rfl⟩⟩; have HB4 := Aside0.mk (pw_below_drewN HB1.out nd); have HO4 := Aside0.mk (Kd.R_drewN HO.out nd); clear HD HB1 HO; generalize wr.drewN nd = w4 at *)
          | (at_builtin; refine appendOne (k := .i64) (w0 := w1) rfl (.tmp 72) (.tmp 75) 25 2 8 rfl Try.underlying25 info_i64 (by decide) _ _ nx rfl rfl HO4.out HB4.out (by have := hacc.out; omega) ?_; intro v5 w5 ho5 hb5; have HO5 := Aside0.mk ho5; have HB5 := Aside0.mk hb5; clear ho5 hb5 HO4 HB4))
        go_ret2
        exact ⟨below_step HB.out HB4.out, rfl⟩
      · have hg : g64 D = (v8 D 8, true) := if_neg h8
        rw [hg] at hG1 hG2
        subst hG2
        have hG1' : v8 D 8 = G1 := hG1
        have hT := Hstep.out
        rw [if_neg h8, ← hdd 8, hG1'] at hT
        have ham : a + 8 ≤ b.length := by omega
        obtain ⟨nx, hnx⟩ : ∃ nx, wrap64 G1 = nx := ⟨_, rfl⟩
        rw [hnx] at hT
        have hnx3 : IntKind.i64.wrap G1 = nx := by rw [wrap_i64_eq]; exact hnx
        have HT := Aside0.mk hT.step
        clear hT Hstep hgr hG1 hG1' hg hdd hDl h8
        go_wp2_with (first
          | (go_at_call 27; refine (HG.out _ HD.out).mono ?_; rintro e w2 ⟨rfl, ⟨nd, rfl⟩⟩; have HB4 := Aside0.mk (pw_below_drewN HB1.out nd); have HO4 := Aside0.mk (Kd.R_drewN HO.out nd); clear HD HB1 HO; generalize wr.drewN nd = w4 at *)
          | (at_builtin; refine appendOne (k := .i64) (w0 := w1) rfl (.tmp 72) (.tmp 75) 25 2 8 rfl Try.underlying25 info_i64 (by decide) _ _ nx rfl rfl HO4.out HB4.out (by have := hacc.out; omega) ?_; intro v5 w5 ho5 hb5; have HO5 := Aside0.mk ho5; have HB5 := Aside0.mk hb5; clear ho5 hb5 HO4 HB4))
        go_roundw
        case rel => exact ⟨i + 1, a + 8, last, acc ++ [nx], by go_num, rfl, by go_num, hin1, ham, ⟨by rw [List.length_append, hacc.out]; rfl⟩, hlast, HT, HO5, HB5⟩
        case measure => clear hnx hnx3 hwr hwr2; simp [intOf]; omega
    · obtain rfl : i = n := by omega
      have hT := hnow.out
      rw [Nat.sub_self, wideR_zero] at hT
      have hMf : M = if put acc = b then some acc else none := by rw [← HM.out]; unfold Now at hT; rw [hT]; simp [WRefTake.Fin]
      clear hT hnow
      obtain ⟨Ax, cx, rfl, lx, ho⟩ := R_C HO.out
      have HX := Aside0.mk ho
      clear ho HO
      have HS : Aside0 (∀ W, Below wr.heap.size wr W → (convert 26 9 (.slice (some ad) b.length c)).run Try.prog W = .ok (.string (strOfNums b)) W) :=
        ⟨fun W hb => toStr1 (P := Try.prog) c Try.underlying26 Try.underlying5 Try.underlying9 (Kd.C_below (Kd.C_below HR.out HB1.out) hb)⟩
      have hs1 := HS.out _ (below_drew (Below.refl _ _))
      have hal : acc.length < 1000000000 := by have := hacc.out; omega
      obtain ⟨PA, hPA⟩ : ∃ PA, put acc = PA := ⟨_, rfl⟩
      have hPb : Bytes PA := by rw [← hPA]; exact put_Bytes _
      rw [hPA] at hMf
      have HPA := Aside0.mk hPA
      clear hPA
      by_cases hp : PA = b
      · rw [if_pos hp] at hMf
        subst hMf
        subst hp
        clear hPb
        go_wp2_with (fail)
        refine start_ (n := 6) (S := fun w' => (convert 26 9 (.slice (some ad) PA.length c)).run Try.prog w' = .ok (.string (strOfNums PA)) w') (ds := []) #[false, false, false, false, false, false] (by kernel_rfl) rfl rfl (hs1) (fun hHeld => ?_)
        refine pure_ (i := 0) (N := some 80) (v := ?_) (a' := ?_) #[true, false, false, false, false, false] rfl rfl (by kernel_rfl) (fun _ _ _ h => h) (Or.inl ⟨by rfl, ?_⟩) ?_ ?_
        rotate_left
        · intro w'
          go_simp
          with_reducible rfl
        rotate_left
        · simp only [Act.put, List.setIfInBounds_toArray, List.set_cons_zero, List.set_cons_succ, i64_w, i32_w]
          rfl
        refine pure_ (i := 3) (N := some 83) (v := ?_) (a' := ?_) #[true, false, false, true, false, false] rfl rfl (by kernel_rfl) (fun _ _ _ h => h) (Or.inl ⟨by rfl, ?_⟩) ?_ ?_
        rotate_left
        · intro w'
          go_simp
          with_reducible rfl
        rotate_left
        · simp only [Act.put, List.setIfInBounds_toArray, List.set_cons_zero, List.set_cons_succ, i64_w, i32_w]
          rfl
        refine take_ (i := 4) (N := some 84) (v := ?_) (a' := ?_) #[true, false, false, true, true, false] rfl rfl (by kernel_rfl) (fun _ _ _ h => h) (Or.inl ⟨by rfl, ?_⟩) hHeld ?_ ?_
        rotate_left
        · intro w' s0
          go_simp
          with_reducible rfl
        rotate_left
        · simp only [Act.put, List.setIfInBounds_toArray, List.set_cons_zero, List.set_cons_succ, i64_w, i32_w]
          rfl
        refine one_ (i := 1) (N := some 81) #[true, true, false, true, true, false] rfl rfl (by kernel_rfl) (by decide) (fun K hK => ?_)
        refine goes_ Try.func19 (by kernel_rfl) rfl #[.slice Ax acc.length cx] (by rfl) rfl rfl (by simp only [List.map_toArray, List.map_cons, List.map_nil]; rfl) ?_
        refine (refPut05 Ax cx acc _ (Kd.C_drew HX.out) lx hal).mono ?_
        rintro e w8 ⟨v, rfl, ho, hb2⟩
        refine ⟨_, rfl, ?_⟩
        rw [HPA.out] at ho
        obtain ⟨Ab, cb, rfl, lb, ho⟩ := R_C ho
        have s8 := toStr1 (P := Try.prog) cb Try.underlying26 Try.underlying5 Try.underlying9 ho
        have hs1 := HS.out _ (below_step (below_drew (Below.refl _ _)) hb2)
        have HB8 := Aside0.mk (below_step (below_drew (below_step HB.out HB1.out)) hb2)
        have HX8 := Aside0.mk (Kd.C_below (Kd.C_drew HX.out) hb2)
        clear ho hb2
        refine hK.out _ _ (hs1) (fun hHeld => ?_)
        clear hK K
        refine norm_ (a' := ?_) ?_ ?_
        rotate_left
        · show Act.put _ (some 81) _ = _
          simp only [Act.put, List.setIfInBounds_toArray, List.set_cons_zero, List.set_cons_succ, i64_w, i32_w]
          rfl
        refine one_ (i := 2) (N := some 82) #[true, true, true, true, true, false] rfl rfl (by kernel_rfl) (by decide) (fun K hK => ?_)
        refine value_ (w1 := ?_) (v := ?_) (by rfl) rfl ?_ ?_
        rotate_left 2
        · go_simp
          constructor
          · rfl
          · rfl
        refine hK.out _ _ (hs1) (fun hHeld => ?_)
        clear hK K
        refine norm_ (a' := ?_) ?_ ?_
        rotate_left
        · show Act.put _ (some 82) _ = _
          simp only [Act.put, List.setIfInBounds_toArray, List.set_cons_zero, List.set_cons_succ, i64_w, i32_w]
          rfl
        refine pure_ (i := 5) (N := some 85) (v := ?_) (a' := ?_) #[true, true, true, true, true, true] rfl rfl (by kernel_rfl) (fun _ _ _ h => h) (Or.inl ⟨by rfl, ?_⟩) ?_ ?_
        rotate_left
        · intro w'
          go_simp
          with_reducible rfl
        rotate_left
        · simp only [Act.put, List.setIfInBounds_toArray, List.set_cons_zero, List.set_cons_succ, i64_w, i32_w]
          rfl
        refine done_ (by kernel_rfl) ?_
        go_wp2_with (fail)
        go_ret2
        exact ⟨HB8.out, Ax, cx, rfl, lx, HX8.out⟩
      · rw [if_neg hp] at hMf
        subst hMf
        have hne : ((strOfNums PA).toList == (strOfNums b).toList) = false := by rw [beq_eq_false_iff_ne]; exact fun h => hp (str_inj hPb hb2.out h)
        have hne2 : ((strOfNums PA).toList != (strOfNums b).toList) = true := by rw [bne_iff_ne]; exact fun h => hp (str_inj hPb hb2.out h)
        clear hPb hp
        go_wp2_with (fail)
        refine start_ (n := 6) (S := fun w' => (convert 26 9 (.slice (some ad) b.length c)).run Try.prog w' = .ok (.string (strOfNums b)) w') (ds := []) #[false, false, false, false, false, false] (by kernel_rfl) rfl rfl (hs1) (fun hHeld => ?_)
        refine pure_ (i := 0) (N := some 80) (v := ?_) (a' := ?_) #[true, false, false, false, false, false] rfl rfl (by kernel_rfl) (fun _ _ _ h => h) (Or.inl ⟨by rfl, ?_⟩) ?_ ?_
        rotate_left
        · intro w'
          go_simp
          with_reducible rfl
        rotate_left
        · simp only [Act.put, List.setIfInBounds_toArray, List.set_cons_zero, List.set_cons_succ, i64_w, i32_w]
          rfl
        refine pure_ (i := 3) (N := some 83) (v := ?_) (a' := ?_) #[true, false, false, true, false, false] rfl rfl (by kernel_rfl) (fun _ _ _ h => h) (Or.inl ⟨by rfl, ?_⟩) ?_ ?_
        rotate_left
        · intro w'
          go_simp
          with_reducible rfl
        rotate_left
        · simp only [Act.put, List.setIfInBounds_toArray, List.set_cons_zero, List.set_cons_succ, i64_w, i32_w]
          rfl
        refine take_ (i := 4) (N := some 84) (v := ?_) (a' := ?_) #[true, false, false, true, true, false] rfl rfl (by kernel_rfl) (fun _ _ _ h => h) (Or.inl ⟨by rfl, ?_⟩) hHeld ?_ ?_
        rotate_left
        · intro w' s0
          go_simp
          with_reducible rfl
        rotate_left
        · simp only [Act.put, List.setIfInBounds_toArray, List.set_cons_zero, List.set_cons_succ, i64_w, i32_w]
          rfl
        refine one_ (i := 1) (N := some 81) #[true, true, false, true, true, false] rfl rfl (by kernel_rfl) (by decide) (fun K hK => ?_)
        refine goes_ Try.func19 (by kernel_rfl) rfl #[.slice Ax acc.length cx] (by rfl) rfl rfl (by simp only [List.map_toArray, List.map_cons, List.map_nil]; rfl) ?_
        refine (refPut05 Ax cx acc _ (Kd.C_drew HX.out) lx hal).mono ?_
        rintro e w8 ⟨v, rfl, ho, hb2⟩
        refine ⟨_, rfl, ?_⟩
        rw [HPA.out] at ho
        obtain ⟨Ab, cb, rfl, lb, ho⟩ := R_C ho
        have s8 := toStr1 (P := Try.prog) cb Try.underlying26 Try.underlying5 Try.underlying9 ho
        have hs1 := HS.out _ (below_step (below_drew (Below.refl _ _)) hb2)
        have HB8 := Aside0.mk (below_step (below_drew (below_step HB.out HB1.out)) hb2)
        have HX8 := Aside0.mk (Kd.C_below (Kd.C_drew HX.out) hb2)
        clear ho hb2
        refine hK.out _ _ (hs1) (fun hHeld => ?_)
        clear hK K
        refine norm_ (a' := ?_) ?_ ?_
        rotate_left
        · show Act.put _ (some 81) _ = _
          simp only [Act.put, List.setIfInBounds_toArray, List.set_cons_zero, List.set_cons_succ, i64_w, i32_w]
          rfl
        refine one_ (i := 2) (N := some 82) #[true, true, true, true, true, false] rfl rfl (by kernel_rfl) (by decide) (fun K hK => ?_)
        refine value_ (w1 := ?_) (v := ?_) (by rfl) rfl ?_ ?_
        rotate_left 2
        · go_simp
          constructor
          · rfl
          · rfl
        refine hK.out _ _ (hs1) (fun hHeld => ?_)
        clear hK K
        refine norm_ (a' := ?_) ?_ ?_
        rotate_left
        · show Act.put _ (some 82) _ = _
          simp only [Act.put, List.setIfInBounds_toArray, List.set_cons_zero, List.set_cons_succ, i64_w, i32_w]
          rfl
        refine pure_ (i := 5) (N := some 85) (v := ?_) (a' := ?_) #[true, true, true, true, true, true] rfl rfl (by kernel_rfl) (fun _ _ _ h => h) (Or.inl ⟨by rfl, ?_⟩) ?_ ?_
        rotate_left
        · intro w'
          go_simp
          with_reducible rfl
        rotate_left
        · simp only [Act.put, List.setIfInBounds_toArray, List.set_cons_zero, List.set_cons_succ, i64_w, i32_w]
          rfl
        refine done_ (by kernel_rfl) ?_
        go_wp2_with (fail)
        go_ret2
        exact ⟨HB8.out, rfl⟩


end Go.Proofs.Ytlhimfkhcdpciaa.WRefTakeW
