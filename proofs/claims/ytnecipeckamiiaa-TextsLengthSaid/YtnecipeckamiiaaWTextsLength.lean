/- The walk of the law TextsLength. -/
import Derived.Test.YtnecipeckamiiaaCFewT
namespace Go.Proofs.Ytnecipeckamiiaa.WTextsLength
open Go.RowKit Go.Proofs.YtnecipeckamiiaaW.PrintWords Go.Proofs.YtnecipeckamiiaaW.PrintLast Go.Proofs.YtnecipeckamiiaaW.PrintMore Go.Proofs.Ytnecipeckamiiaa.Num Go.Proofs.Ytnecipeckamiiaa.Bits Go.Proofs.Ytnecipeckamiiaa.VarM Go.Proofs.Ytnecipeckamiiaa.TextsT Go.Proofs.Ytnecipeckamiiaa.Hold Go.Proofs.Ytnecipeckamiiaa.HoldS Go.Proofs.Ytnecipeckamiiaa.CEach Go.Proofs.Ytnecipeckamiiaa.KDict Go.Proofs.Ytnecipeckamiiaa.CDict Go.Proofs.Ytnecipeckamiiaa.CPutT Go.Proofs.Ytnecipeckamiiaa.CFewT
set_option linter.unusedVariables false
set_option linter.unusedSimpArgs false
attribute [local go_sem] max2_int min2_int max_two min_two max_three min_three max_four min_four

theorem each_snoc1 (l : List ByteArray) (i : Nat) (h : i < l.length) (h6 : (rdOf ByteArray.empty l i).size ≤ 60) :
    strOfNums (each (l.take (i + 1))) = strOfNums (each (l.take i)) ++ strOfNums [((rdOf ByteArray.empty l i).size : Int)] ++ rdOf ByteArray.empty l i := by
  rw [each_snoc l i h, pv_small (by omega), str_append, str_append, str_bytesOf, ByteArray.append_assoc]
theorem conv_lit (W : World) (x : Int) : (convert 25 9 (.slice (some ⟨W.heap.size, 0, none⟩) 1 1)).run Try.prog (W.alloc (.cells #[.int .u8 x] 5)).drew = .ok (.string (strOfNums [x])) (W.alloc (.cells #[.int .u8 x] 5)).drew := by
  have h := own_lit W W.heap.size 5 .u8 [x] (Nat.le_refl _) (by simp)
  have h2 : Kd.R (Kd.int .u8) 5 (W.alloc (.cells #[.int .u8 x] 5)) W.heap.size (fun _ => True) (.slice (some ⟨W.heap.size, 0, none⟩) 1 1) [x] := Kd.R_of_own (enc := Value.int .u8) h (fun _ _ => trivial)
  exact toStr1 (P := Try.prog) 1 Try.underlying25 Try.underlying5 Try.underlying9 (Kd.C_drew (Kd.R_reads' h2).2.2)

set_option maxHeartbeats 8000000 in
set_option maxRecDepth 100000 in
theorem core1 (A : Option Addr) (c : Nat) (l m : List ByteArray) (w : World) (hr : Kd.C Kd.string w A l.length l) (hc : l.length ≤ c) (hn : l.length < 10000000000000) (hm : fewL l = m) (hml : m.length ≤ 60) (hms : ∀ s ∈ m, s.size ≤ 60)
    (hP : put m = (m.length : Int) :: 1 :: dict m) (hd : (dict m).length < (each m).length) :
    Calls Try.prog 4 #[.slice A l.length c] w fun e w' => e = .returned (.bool true) ∧ Below w.heap.size w w' := by
  have HR := Aside0.mk hr
  have HS := Aside0.mk hms
  have HS2 : Aside0 (∀ s ∈ m, s.size ≤ 1000) := ⟨fun s h => by have := hms s h; omega⟩
  have HM := Aside0.mk hm
  have HP := Aside0.mk hP
  have HB := Aside0.mk (Below.refl w.heap.size w)
  have hdb : decide ((dict m).length < (each m).length) = true := decide_eq_true hd
  have hdbi : decide (((dict m).length : Int) < ((each m).length : Int)) = true := decide_eq_true (by omega)
  have hdB := Aside0.mk hdb
  have hdBI := Aside0.mk hdbi
  have hel := Aside0.mk (each_le m 1000 HS2.out (by decide))
  clear hr hms hm hP hd hdb hdbi
  go_enter Try.func4, Try.ntmps4
  go_wp2_with (fail)
  (with_reducible refine (shownC _).mono ?_); rintro e w1 ⟨rfl, hb⟩
  replace HB := Aside0.mk (below_step HB.out hb); replace HR := Aside0.mk (Kd.C_below HR.out hb); clear hb
  go_wp2_with (fail)
  refine (fewC A c l _ HR.out hc hn).mono ?_; rintro e w2 ⟨v, rfl, ho, hb⟩
  rw [HM.out] at ho
  obtain ⟨Am, cm, rfl, lm, ho⟩ := R_CS ho
  replace HB := Aside0.mk (below_step HB.out hb)
  have HL := Aside0.mk ho
  clear hb ho HR HM hn
  go_wp2_with (fail)
  refine (putC Am cm m _ HL.out lm (by omega) HS2.out).mono ?_; rintro e w3 ⟨v, rfl, ho, hb⟩
  obtain ⟨Ap, cp, rfl, lp, ho⟩ := R_C ho
  replace HB := Aside0.mk (below_step HB.out hb)
  replace HL := Aside0.mk (Kd.C_below HL.out hb)
  have HPR := Aside0.mk ho
  clear hb ho
  go_wp2_with (fail)
  refine (dictC Am cm m _ HL.out lm (by omega) HS2.out).mono ?_; rintro e w4 ⟨v, rfl, ho, hb⟩
  obtain ⟨Ad, cd, rfl, ld, ho⟩ := R_C ho
  replace HB := Aside0.mk (below_step HB.out hb)
  replace HL := Aside0.mk (Kd.C_below HL.out hb)
  replace HPR := Aside0.mk (Kd.C_below HPR.out hb)
  have HD := Aside0.mk ho
  clear hb ho
  go_wp2_with (fail)
  refine (eachC Am cm m _ HL.out lm (by omega) HS2.out).mono ?_; rintro e w5 ⟨v, rfl, ho, hb⟩
  obtain ⟨Ae, ce, rfl, le, ho⟩ := R_C ho
  replace HB := Aside0.mk (below_step HB.out hb)
  replace HL := Aside0.mk (Kd.C_below HL.out hb)
  replace HPR := Aside0.mk (Kd.C_below HPR.out hb)
  replace HD := Aside0.mk (Kd.C_below HD.out hb)
  have HE := Aside0.mk ho
  clear hb ho
  obtain ⟨D, hDD⟩ : ∃ D, dict m = D := ⟨_, rfl⟩
  obtain ⟨E, hEE⟩ : ∃ E, each m = E := ⟨_, rfl⟩
  rw [hDD] at HD ld hdB hdBI HP ⊢
  rw [hEE] at HE le hdB hdBI hel ⊢
  clear hDD
  have hEE := Aside0.mk hEE
  go_wp2_with (fail)
  go_loopw [7, 8] (fun v7 v8 wr => ∃ i : Nat, v8 = .int .i64 i ∧ i ≤ m.length ∧ (∃ S, v7 = .string S ∧ Aside0 (S = strOfNums (each (m.take i)))) ∧ Aside0 (Below w5.heap.size w5 wr)) (fun _ v8 _ => m.length - (intOf v8).toNat)
  case atStart => exact ⟨0, by go_num, by omega, ⟨_, rfl, ⟨rfl⟩⟩, ⟨Below.refl _ _⟩⟩
  case round =>
    obtain ⟨i, rfl, hil, ⟨S, rfl, hS⟩, HBr⟩ := hrel
    by_cases hi : i < m.length
    · obtain ⟨ad, rfl, hcell⟩ := Kd.at_string (Kd.C_below HL.out HBr.out) (i : Int) (by omega) (by omega)
      have hiI : (i : Int) < (m.length : Int) := by omega
      have hi0 : (0 : Int) ≤ (i : Int) := by omega
      obtain ⟨s, hsx⟩ : ∃ s, rdOf ByteArray.empty m (i : Int) = s := ⟨_, rfl⟩
      have hs1 : s.size ≤ 60 := by
        rw [← hsx, rdOf, Int.toNat_natCast, List.getD_eq_getElem?_getD, List.getElem?_eq_getElem hi]
        exact HS.out _ (List.getElem_mem hi)
      have hsn := each_snoc1 m i hi (by rw [hsx]; exact hs1)
      rw [hsx] at hcell hsn
      rw [Int.toNat_natCast] at hcell
      clear hsx
      have hEl : (each (m.take i)).length ≤ 20000 := by
        have := each_le (m.take i) 60 (fun x hx => HS.out x (List.mem_of_mem_take hx)) (by decide)
        have h2 : (m.take i).length ≤ 60 := by rw [List.length_take]; omega
        have h3 := Nat.mul_le_mul_right (60 + 10) h2
        omega
      have hSz : (strOfNums (each (m.take i))).size ≤ 20000 := by rw [strOfNums_size]; exact hEl
      rw [← hS.out] at hsn hSz
      clear hS
      have hTz : (strOfNums [(s.size : Int)]).size ≤ 1 := by rw [strOfNums_size]; simp
      have hcl := conv_lit wr (s.size : Int)
      generalize strOfNums [(s.size : Int)] = T at hsn hTz hcl
      have hz1 : (9223372036854775807 < S.size + T.size) = False := eq_false (by omega)
      have hz2 : (9223372036854775807 < (S ++ T).size + s.size) = False := eq_false (by rw [ByteArray.size_append]; omega)
      have hz3 : (9223372036854775807 < S.size + T.size + s.size) = False := eq_false (by omega)
      have HSN := Aside0.mk hsn
      clear hsn hEl
      have hwr : wrap64 ((i : Int) + 1) = ((i + 1 : Nat) : Int) := by rw [wrap64_id (by omega) (by omega)]; rfl
      have hw8 : IntKind.u8.wrap (s.size : Int) = (s.size : Int) := by simp [IntKind.wrap, IntKind.signed, IntKind.bits]; omega
      go_wp2_with (fail)

      refine start_ (n := 16) (S := fun w' => w'.cell? (ad.add i) = some (.string s)) (ds := []) #[false, false, false, false, false, false, false, false, false, false, false, false, false, false, false, false] (by kernel_rfl) rfl rfl (hcell) (fun hHeld => ?_)
      refine pure_ (i := 0) (N := some 24) (v := ?_) (a' := ?_) #[true, false, false, false, false, false, false, false, false, false, false, false, false, false, false, false] rfl rfl (by kernel_rfl) (fun _ _ _ h => h) (Or.inl ⟨by rfl, ?_⟩) ?_ ?_
      rotate_left
      · intro w'
        go_simp
        with_reducible rfl
      rotate_left
      · simp only [Act.put, List.setIfInBounds_toArray, List.set_cons_zero, List.set_cons_succ, i64_w, i32_w]
        rfl
      refine pure_ (i := 1) (N := some 25) (v := ?_) (a' := ?_) #[true, true, false, false, false, false, false, false, false, false, false, false, false, false, false, false] rfl rfl (by kernel_rfl) (fun _ _ _ h => h) (Or.inl ⟨by rfl, ?_⟩) ?_ ?_
      rotate_left
      · intro w'
        go_simp
        with_reducible rfl
      rotate_left
      · simp only [Act.put, List.setIfInBounds_toArray, List.set_cons_zero, List.set_cons_succ, i64_w, i32_w]
        rfl
      refine pure_ (i := 2) (N := some 26) (v := ?_) (a' := ?_) #[true, true, true, false, false, false, false, false, false, false, false, false, false, false, false, false] rfl rfl (by kernel_rfl) (fun _ _ _ h => h) (Or.inl ⟨by rfl, ?_⟩) ?_ ?_
      rotate_left
      · intro w'
        go_simp
        with_reducible rfl
      rotate_left
      · simp only [Act.put, List.setIfInBounds_toArray, List.set_cons_zero, List.set_cons_succ, i64_w, i32_w]
        rfl
      refine pure_ (i := 3) (N := some 27) (v := ?_) (a' := ?_) #[true, true, true, true, false, false, false, false, false, false, false, false, false, false, false, false] rfl rfl (by kernel_rfl) (fun _ _ _ h => h) (Or.inl ⟨by rfl, ?_⟩) ?_ ?_
      rotate_left
      · intro w'
        go_simp
        with_reducible rfl
      rotate_left
      · simp only [Act.put, List.setIfInBounds_toArray, List.set_cons_zero, List.set_cons_succ, i64_w, i32_w]
        rfl
      refine pure_ (i := 10) (N := some 34) (v := ?_) (a' := ?_) #[true, true, true, true, false, false, false, false, false, false, true, false, false, false, false, false] rfl rfl (by kernel_rfl) (fun _ _ _ h => h) (Or.inl ⟨by rfl, ?_⟩) ?_ ?_
      rotate_left
      · intro w'
        go_simp
        with_reducible rfl
      rotate_left
      · simp only [Act.put, List.setIfInBounds_toArray, List.set_cons_zero, List.set_cons_succ, i64_w, i32_w]
        rfl
      refine pure_ (i := 11) (N := some 35) (v := ?_) (a' := ?_) #[true, true, true, true, false, false, false, false, false, false, true, true, false, false, false, false] rfl rfl (by kernel_rfl) (fun _ _ _ h => h) (Or.inl ⟨by rfl, ?_⟩) ?_ ?_
      rotate_left
      · intro w'
        go_simp
        with_reducible rfl
      rotate_left
      · simp only [Act.put, List.setIfInBounds_toArray, List.set_cons_zero, List.set_cons_succ, i64_w, i32_w]
        rfl
      refine pure_ (i := 12) (N := some 36) (v := ?_) (a' := ?_) #[true, true, true, true, false, false, false, false, false, false, true, true, true, false, false, false] rfl rfl (by kernel_rfl) (fun _ _ _ h => h) (Or.inl ⟨by rfl, ?_⟩) ?_ ?_
      rotate_left
      · intro w'
        go_simp
        with_reducible rfl
      rotate_left
      · simp only [Act.put, List.setIfInBounds_toArray, List.set_cons_zero, List.set_cons_succ, i64_w, i32_w]
        rfl
      refine take_ (i := 4) (N := some 28) (v := ?_) (a' := ?_) #[true, true, true, true, true, false, false, false, false, false, true, true, true, false, false, false] rfl rfl (by kernel_rfl) (fun _ _ _ h => h) (Or.inl ⟨by rfl, ?_⟩) hHeld ?_ ?_
      rotate_left
      · intro w' s0
        go_simp
        with_reducible rfl
      rotate_left
      · simp only [Act.put, List.setIfInBounds_toArray, List.set_cons_zero, List.set_cons_succ, i64_w, i32_w]
        rfl
      refine pure_ (i := 5) (N := some 29) (v := ?_) (a' := ?_) #[true, true, true, true, true, true, false, false, false, false, true, true, true, false, false, false] rfl rfl (by kernel_rfl) (fun _ _ _ h => h) (Or.inl ⟨by rfl, ?_⟩) ?_ ?_
      rotate_left
      · intro w'
        go_simp
        with_reducible rfl
      rotate_left
      · simp only [Act.put, List.setIfInBounds_toArray, List.set_cons_zero, List.set_cons_succ, i64_w, i32_w]
        rfl
      refine pure_ (i := 6) (N := some 30) (v := ?_) (a' := ?_) #[true, true, true, true, true, true, true, false, false, false, true, true, true, false, false, false] rfl rfl (by kernel_rfl) (fun _ _ _ h => h) (Or.inl ⟨by rfl, ?_⟩) ?_ ?_
      rotate_left
      · intro w'
        go_simp
        with_reducible rfl
      rotate_left
      · simp only [Act.put, List.setIfInBounds_toArray, List.set_cons_zero, List.set_cons_succ, i64_w, i32_w]
        rfl
      refine take_ (i := 13) (N := some 37) (v := ?_) (a' := ?_) #[true, true, true, true, true, true, true, false, false, false, true, true, true, true, false, false] rfl rfl (by kernel_rfl) (fun _ _ _ h => h) (Or.inl ⟨by rfl, ?_⟩) hHeld ?_ ?_
      rotate_left
      · intro w' s0
        go_simp
        with_reducible rfl
      rotate_left
      · simp only [Act.put, List.setIfInBounds_toArray, List.set_cons_zero, List.set_cons_succ, i64_w, i32_w]
        rfl
      refine one_ (i := 7) (N := some 31) #[true, true, true, true, true, true, true, true, false, false, true, true, true, true, false, false] rfl rfl (by kernel_rfl) (by decide) (fun K hK => ?_)
      refine value_ (w1 := ?_) (v := ?_) (by rfl) rfl ?_ ?_
      rotate_left 2
      · go_simp
        constructor
        · rfl
        · rfl
      refine hK.out _ _ ((pw_cell_below (below_alloc (Below.refl _ _) _) hHeld)) (fun hHeld => ?_)
      clear hK K
      refine norm_ (a' := ?_) ?_ ?_
      rotate_left
      · show Act.put _ (some 31) _ = _
        simp only [Act.put, List.setIfInBounds_toArray, List.set_cons_zero, List.set_cons_succ, i64_w, i32_w]
        rfl
      refine one_ (i := 8) (N := some 32) #[true, true, true, true, true, true, true, true, true, false, true, true, true, true, false, false] rfl rfl (by kernel_rfl) (by decide) (fun K hK => ?_)
      refine value_ (w1 := ?_) (v := ?_) (by rfl) rfl ?_ ?_
      rotate_left 2
      · go_simp
        constructor
        · rfl
        · rfl
      refine hK.out _ _ (hHeld) (fun hHeld => ?_)
      clear hK K
      refine norm_ (a' := ?_) ?_ ?_
      rotate_left
      · show Act.put _ (some 32) _ = _
        simp only [Act.put, List.setIfInBounds_toArray, List.set_cons_zero, List.set_cons_succ, i64_w, i32_w]
        rfl
      refine pure_ (i := 9) (N := some 33) (v := ?_) (a' := ?_) #[true, true, true, true, true, true, true, true, true, true, true, true, true, true, false, false] rfl rfl (by kernel_rfl) (fun _ _ _ h => h) (Or.inl ⟨by rfl, ?_⟩) ?_ ?_
      rotate_left
      · intro w'
        go_simp
        with_reducible rfl
      rotate_left
      · simp only [Act.put, List.setIfInBounds_toArray, List.set_cons_zero, List.set_cons_succ, i64_w, i32_w]
        rfl
      refine pure_ (i := 14) (N := some 38) (v := ?_) (a' := ?_) #[true, true, true, true, true, true, true, true, true, true, true, true, true, true, true, false] rfl rfl (by kernel_rfl) (fun _ _ _ h => h) (Or.inl ⟨by rfl, ?_⟩) ?_ ?_
      rotate_left
      · intro w'
        go_simp
        with_reducible rfl
      rotate_left
      · simp only [Act.put, List.setIfInBounds_toArray, List.set_cons_zero, List.set_cons_succ, i64_w, i32_w]
        rfl
      refine pure_ (i := 15) (N := some 7) (v := ?_) (a' := ?_) #[true, true, true, true, true, true, true, true, true, true, true, true, true, true, true, true] rfl rfl (by kernel_rfl) (fun _ _ _ h => h) (Or.inl ⟨by rfl, ?_⟩) ?_ ?_
      rotate_left
      · intro w'
        go_simp
        with_reducible rfl
      rotate_left
      · simp only [Act.put, List.setIfInBounds_toArray, List.set_cons_zero, List.set_cons_succ, i64_w, i32_w]
        rfl
      refine done_ (by kernel_rfl) ?_
      clear hz1 hz2 hz3 hcl hw8 hwr
      generalize S ++ T ++ s = R at HSN ⊢
      generalize S ++ T = R2
      have HB8 := Aside0.mk (below_drew (below_alloc HBr.out (.cells #[.int .u8 (s.size : Int)] 5)))
      generalize (wr.alloc (.cells #[.int .u8 (s.size : Int)] 5)).drew = w8 at *
      clear hcell hHeld HBr
      go_wp2_with (fail)
      go_roundw
      case rel => exact ⟨i + 1, by go_num, by omega, ⟨_, rfl, ⟨by rw [HSN.out]⟩⟩, HB8⟩
      case measure => simp [intOf]; omega
    · obtain rfl : i = m.length := by omega
      obtain rfl : S = strOfNums E := by rw [hS.out, List.take_of_length_le (Nat.le_refl _), hEE.out]
      clear hS
      have hHP := HP.out
      have hl2 : 2 ≤ (put m).length := by rw [hHP]; simp
      have HPb := Kd.C_below HPR.out HBr.out
      clear HPR
      obtain ⟨ap, rfl, hcells⟩ := C_cells HPb (by omega)
      have c0 : wr.cell? ap = some (.int .u8 m.length) := by
        have h := cells0 hcells (by omega)
        rw [hHP] at h
        exact h
      have c1 : wr.cell? ⟨ap.block, ap.off + 1, none⟩ = some (.int .u8 1) := by
        have h := hcells 1 (by omega)
        rw [hHP] at h
        exact h
      clear hcells
      obtain ⟨A2, hcut, h2, _⟩ := cutFrom (P := Try.prog) 25 5 Try.underlying25 CEach.info_u8 .u8 (some ap) cp _ 2 (by omega) (by omega) lp
      have h3 := h2 _ HPb
      rw [show (put m).drop (2 : Int).toNat = D from by rw [hHP]; rfl] at h3 hcut
      clear h2 HPb
      have hs2 := toStr (P := Try.prog) (cp - 2) Try.underlying25 Try.underlying5 Try.underlying9 h3
      have hsE := toStr1 (P := Try.prog) ce Try.underlying25 Try.underlying5 Try.underlying9 (Kd.C_below HE.out HBr.out)
      have hsD := toStr (P := Try.prog) cd Try.underlying25 Try.underlying5 Try.underlying9 (Kd.C_below HD.out HBr.out)
      have hw8 : IntKind.u8.wrap (m.length : Int) = (m.length : Int) := by simp [IntKind.wrap, IntKind.signed, IntKind.bits]; omega
      have hd1 : decide (((put m).length : Int) < 2) = false := decide_eq_false (by omega)
      have hi1 : (1 : Int) < ((put m).length : Int) := by omega
      have hdb := hdB.out
      have hdbi := hdBI.out
      clear h3 hHP HP hl2
      generalize put m = B at *
      go_wp2_with (fail)
      go_quiet (fail)
      go_wp2_with (fail)
      go_ret
      exact ⟨rfl, below_step HB.out (pw_below_drewN HBr.out _)⟩

set_option maxHeartbeats 8000000 in
set_option maxRecDepth 100000 in
theorem core0 (A : Option Addr) (c : Nat) (l m : List ByteArray) (w : World) (hr : Kd.C Kd.string w A l.length l) (hc : l.length ≤ c) (hn : l.length < 10000000000000) (hm : fewL l = m) (hml : m.length ≤ 60) (hms : ∀ s ∈ m, s.size ≤ 60)
    (hP : put m = (m.length : Int) :: 0 :: each m) (hd : ¬ (dict m).length < (each m).length) :
    Calls Try.prog 4 #[.slice A l.length c] w fun e w' => e = .returned (.bool true) ∧ Below w.heap.size w w' := by
  have HR := Aside0.mk hr
  have HS := Aside0.mk hms
  have HS2 : Aside0 (∀ s ∈ m, s.size ≤ 1000) := ⟨fun s h => by have := hms s h; omega⟩
  have HM := Aside0.mk hm
  have HP := Aside0.mk hP
  have HB := Aside0.mk (Below.refl w.heap.size w)
  have hdb : decide ((dict m).length < (each m).length) = false := decide_eq_false hd
  have hdbi : decide (((dict m).length : Int) < ((each m).length : Int)) = false := decide_eq_false (by omega)
  have hdB := Aside0.mk hdb
  have hdBI := Aside0.mk hdbi
  have hel := Aside0.mk (each_le m 1000 HS2.out (by decide))
  clear hr hms hm hP hd hdb hdbi
  go_enter Try.func4, Try.ntmps4
  go_wp2_with (fail)
  (with_reducible refine (shownC _).mono ?_); rintro e w1 ⟨rfl, hb⟩
  replace HB := Aside0.mk (below_step HB.out hb); replace HR := Aside0.mk (Kd.C_below HR.out hb); clear hb
  go_wp2_with (fail)
  refine (fewC A c l _ HR.out hc hn).mono ?_; rintro e w2 ⟨v, rfl, ho, hb⟩
  rw [HM.out] at ho
  obtain ⟨Am, cm, rfl, lm, ho⟩ := R_CS ho
  replace HB := Aside0.mk (below_step HB.out hb)
  have HL := Aside0.mk ho
  clear hb ho HR HM hn
  go_wp2_with (fail)
  refine (putC Am cm m _ HL.out lm (by omega) HS2.out).mono ?_; rintro e w3 ⟨v, rfl, ho, hb⟩
  obtain ⟨Ap, cp, rfl, lp, ho⟩ := R_C ho
  replace HB := Aside0.mk (below_step HB.out hb)
  replace HL := Aside0.mk (Kd.C_below HL.out hb)
  have HPR := Aside0.mk ho
  clear hb ho
  go_wp2_with (fail)
  refine (dictC Am cm m _ HL.out lm (by omega) HS2.out).mono ?_; rintro e w4 ⟨v, rfl, ho, hb⟩
  obtain ⟨Ad, cd, rfl, ld, ho⟩ := R_C ho
  replace HB := Aside0.mk (below_step HB.out hb)
  replace HL := Aside0.mk (Kd.C_below HL.out hb)
  replace HPR := Aside0.mk (Kd.C_below HPR.out hb)
  have HD := Aside0.mk ho
  clear hb ho
  go_wp2_with (fail)
  refine (eachC Am cm m _ HL.out lm (by omega) HS2.out).mono ?_; rintro e w5 ⟨v, rfl, ho, hb⟩
  obtain ⟨Ae, ce, rfl, le, ho⟩ := R_C ho
  replace HB := Aside0.mk (below_step HB.out hb)
  replace HL := Aside0.mk (Kd.C_below HL.out hb)
  replace HPR := Aside0.mk (Kd.C_below HPR.out hb)
  replace HD := Aside0.mk (Kd.C_below HD.out hb)
  have HE := Aside0.mk ho
  clear hb ho
  obtain ⟨D, hDD⟩ : ∃ D, dict m = D := ⟨_, rfl⟩
  obtain ⟨E, hEE⟩ : ∃ E, each m = E := ⟨_, rfl⟩
  rw [hDD] at HD ld hdB hdBI ⊢
  rw [hEE] at HE le hdB hdBI hel HP ⊢
  clear hDD
  have hEE := Aside0.mk hEE
  go_wp2_with (fail)
  go_loopw [7, 8] (fun v7 v8 wr => ∃ i : Nat, v8 = .int .i64 i ∧ i ≤ m.length ∧ (∃ S, v7 = .string S ∧ Aside0 (S = strOfNums (each (m.take i)))) ∧ Aside0 (Below w5.heap.size w5 wr)) (fun _ v8 _ => m.length - (intOf v8).toNat)
  case atStart => exact ⟨0, by go_num, by omega, ⟨_, rfl, ⟨rfl⟩⟩, ⟨Below.refl _ _⟩⟩
  case round =>
    obtain ⟨i, rfl, hil, ⟨S, rfl, hS⟩, HBr⟩ := hrel
    by_cases hi : i < m.length
    · obtain ⟨ad, rfl, hcell⟩ := Kd.at_string (Kd.C_below HL.out HBr.out) (i : Int) (by omega) (by omega)
      have hiI : (i : Int) < (m.length : Int) := by omega
      have hi0 : (0 : Int) ≤ (i : Int) := by omega
      obtain ⟨s, hsx⟩ : ∃ s, rdOf ByteArray.empty m (i : Int) = s := ⟨_, rfl⟩
      have hs1 : s.size ≤ 60 := by
        rw [← hsx, rdOf, Int.toNat_natCast, List.getD_eq_getElem?_getD, List.getElem?_eq_getElem hi]
        exact HS.out _ (List.getElem_mem hi)
      have hsn := each_snoc1 m i hi (by rw [hsx]; exact hs1)
      rw [hsx] at hcell hsn
      rw [Int.toNat_natCast] at hcell
      clear hsx
      have hEl : (each (m.take i)).length ≤ 20000 := by
        have := each_le (m.take i) 60 (fun x hx => HS.out x (List.mem_of_mem_take hx)) (by decide)
        have h2 : (m.take i).length ≤ 60 := by rw [List.length_take]; omega
        have h3 := Nat.mul_le_mul_right (60 + 10) h2
        omega
      have hSz : (strOfNums (each (m.take i))).size ≤ 20000 := by rw [strOfNums_size]; exact hEl
      rw [← hS.out] at hsn hSz
      clear hS
      have hTz : (strOfNums [(s.size : Int)]).size ≤ 1 := by rw [strOfNums_size]; simp
      have hcl := conv_lit wr (s.size : Int)
      generalize strOfNums [(s.size : Int)] = T at hsn hTz hcl
      have hz1 : (9223372036854775807 < S.size + T.size) = False := eq_false (by omega)
      have hz2 : (9223372036854775807 < (S ++ T).size + s.size) = False := eq_false (by rw [ByteArray.size_append]; omega)
      have hz3 : (9223372036854775807 < S.size + T.size + s.size) = False := eq_false (by omega)
      have HSN := Aside0.mk hsn
      clear hsn hEl
      have hwr : wrap64 ((i : Int) + 1) = ((i + 1 : Nat) : Int) := by rw [wrap64_id (by omega) (by omega)]; rfl
      have hw8 : IntKind.u8.wrap (s.size : Int) = (s.size : Int) := by simp [IntKind.wrap, IntKind.signed, IntKind.bits]; omega
      go_wp2_with (fail)

      refine start_ (n := 16) (S := fun w' => w'.cell? (ad.add i) = some (.string s)) (ds := []) #[false, false, false, false, false, false, false, false, false, false, false, false, false, false, false, false] (by kernel_rfl) rfl rfl (hcell) (fun hHeld => ?_)
      refine pure_ (i := 0) (N := some 24) (v := ?_) (a' := ?_) #[true, false, false, false, false, false, false, false, false, false, false, false, false, false, false, false] rfl rfl (by kernel_rfl) (fun _ _ _ h => h) (Or.inl ⟨by rfl, ?_⟩) ?_ ?_
      rotate_left
      · intro w'
        go_simp
        with_reducible rfl
      rotate_left
      · simp only [Act.put, List.setIfInBounds_toArray, List.set_cons_zero, List.set_cons_succ, i64_w, i32_w]
        rfl
      refine pure_ (i := 1) (N := some 25) (v := ?_) (a' := ?_) #[true, true, false, false, false, false, false, false, false, false, false, false, false, false, false, false] rfl rfl (by kernel_rfl) (fun _ _ _ h => h) (Or.inl ⟨by rfl, ?_⟩) ?_ ?_
      rotate_left
      · intro w'
        go_simp
        with_reducible rfl
      rotate_left
      · simp only [Act.put, List.setIfInBounds_toArray, List.set_cons_zero, List.set_cons_succ, i64_w, i32_w]
        rfl
      refine pure_ (i := 2) (N := some 26) (v := ?_) (a' := ?_) #[true, true, true, false, false, false, false, false, false, false, false, false, false, false, false, false] rfl rfl (by kernel_rfl) (fun _ _ _ h => h) (Or.inl ⟨by rfl, ?_⟩) ?_ ?_
      rotate_left
      · intro w'
        go_simp
        with_reducible rfl
      rotate_left
      · simp only [Act.put, List.setIfInBounds_toArray, List.set_cons_zero, List.set_cons_succ, i64_w, i32_w]
        rfl
      refine pure_ (i := 3) (N := some 27) (v := ?_) (a' := ?_) #[true, true, true, true, false, false, false, false, false, false, false, false, false, false, false, false] rfl rfl (by kernel_rfl) (fun _ _ _ h => h) (Or.inl ⟨by rfl, ?_⟩) ?_ ?_
      rotate_left
      · intro w'
        go_simp
        with_reducible rfl
      rotate_left
      · simp only [Act.put, List.setIfInBounds_toArray, List.set_cons_zero, List.set_cons_succ, i64_w, i32_w]
        rfl
      refine pure_ (i := 10) (N := some 34) (v := ?_) (a' := ?_) #[true, true, true, true, false, false, false, false, false, false, true, false, false, false, false, false] rfl rfl (by kernel_rfl) (fun _ _ _ h => h) (Or.inl ⟨by rfl, ?_⟩) ?_ ?_
      rotate_left
      · intro w'
        go_simp
        with_reducible rfl
      rotate_left
      · simp only [Act.put, List.setIfInBounds_toArray, List.set_cons_zero, List.set_cons_succ, i64_w, i32_w]
        rfl
      refine pure_ (i := 11) (N := some 35) (v := ?_) (a' := ?_) #[true, true, true, true, false, false, false, false, false, false, true, true, false, false, false, false] rfl rfl (by kernel_rfl) (fun _ _ _ h => h) (Or.inl ⟨by rfl, ?_⟩) ?_ ?_
      rotate_left
      · intro w'
        go_simp
        with_reducible rfl
      rotate_left
      · simp only [Act.put, List.setIfInBounds_toArray, List.set_cons_zero, List.set_cons_succ, i64_w, i32_w]
        rfl
      refine pure_ (i := 12) (N := some 36) (v := ?_) (a' := ?_) #[true, true, true, true, false, false, false, false, false, false, true, true, true, false, false, false] rfl rfl (by kernel_rfl) (fun _ _ _ h => h) (Or.inl ⟨by rfl, ?_⟩) ?_ ?_
      rotate_left
      · intro w'
        go_simp
        with_reducible rfl
      rotate_left
      · simp only [Act.put, List.setIfInBounds_toArray, List.set_cons_zero, List.set_cons_succ, i64_w, i32_w]
        rfl
      refine take_ (i := 4) (N := some 28) (v := ?_) (a' := ?_) #[true, true, true, true, true, false, false, false, false, false, true, true, true, false, false, false] rfl rfl (by kernel_rfl) (fun _ _ _ h => h) (Or.inl ⟨by rfl, ?_⟩) hHeld ?_ ?_
      rotate_left
      · intro w' s0
        go_simp
        with_reducible rfl
      rotate_left
      · simp only [Act.put, List.setIfInBounds_toArray, List.set_cons_zero, List.set_cons_succ, i64_w, i32_w]
        rfl
      refine pure_ (i := 5) (N := some 29) (v := ?_) (a' := ?_) #[true, true, true, true, true, true, false, false, false, false, true, true, true, false, false, false] rfl rfl (by kernel_rfl) (fun _ _ _ h => h) (Or.inl ⟨by rfl, ?_⟩) ?_ ?_
      rotate_left
      · intro w'
        go_simp
        with_reducible rfl
      rotate_left
      · simp only [Act.put, List.setIfInBounds_toArray, List.set_cons_zero, List.set_cons_succ, i64_w, i32_w]
        rfl
      refine pure_ (i := 6) (N := some 30) (v := ?_) (a' := ?_) #[true, true, true, true, true, true, true, false, false, false, true, true, true, false, false, false] rfl rfl (by kernel_rfl) (fun _ _ _ h => h) (Or.inl ⟨by rfl, ?_⟩) ?_ ?_
      rotate_left
      · intro w'
        go_simp
        with_reducible rfl
      rotate_left
      · simp only [Act.put, List.setIfInBounds_toArray, List.set_cons_zero, List.set_cons_succ, i64_w, i32_w]
        rfl
      refine take_ (i := 13) (N := some 37) (v := ?_) (a' := ?_) #[true, true, true, true, true, true, true, false, false, false, true, true, true, true, false, false] rfl rfl (by kernel_rfl) (fun _ _ _ h => h) (Or.inl ⟨by rfl, ?_⟩) hHeld ?_ ?_
      rotate_left
      · intro w' s0
        go_simp
        with_reducible rfl
      rotate_left
      · simp only [Act.put, List.setIfInBounds_toArray, List.set_cons_zero, List.set_cons_succ, i64_w, i32_w]
        rfl
      refine one_ (i := 7) (N := some 31) #[true, true, true, true, true, true, true, true, false, false, true, true, true, true, false, false] rfl rfl (by kernel_rfl) (by decide) (fun K hK => ?_)
      refine value_ (w1 := ?_) (v := ?_) (by rfl) rfl ?_ ?_
      rotate_left 2
      · go_simp
        constructor
        · rfl
        · rfl
      refine hK.out _ _ ((pw_cell_below (below_alloc (Below.refl _ _) _) hHeld)) (fun hHeld => ?_)
      clear hK K
      refine norm_ (a' := ?_) ?_ ?_
      rotate_left
      · show Act.put _ (some 31) _ = _
        simp only [Act.put, List.setIfInBounds_toArray, List.set_cons_zero, List.set_cons_succ, i64_w, i32_w]
        rfl
      refine one_ (i := 8) (N := some 32) #[true, true, true, true, true, true, true, true, true, false, true, true, true, true, false, false] rfl rfl (by kernel_rfl) (by decide) (fun K hK => ?_)
      refine value_ (w1 := ?_) (v := ?_) (by rfl) rfl ?_ ?_
      rotate_left 2
      · go_simp
        constructor
        · rfl
        · rfl
      refine hK.out _ _ (hHeld) (fun hHeld => ?_)
      clear hK K
      refine norm_ (a' := ?_) ?_ ?_
      rotate_left
      · show Act.put _ (some 32) _ = _
        simp only [Act.put, List.setIfInBounds_toArray, List.set_cons_zero, List.set_cons_succ, i64_w, i32_w]
        rfl
      refine pure_ (i := 9) (N := some 33) (v := ?_) (a' := ?_) #[true, true, true, true, true, true, true, true, true, true, true, true, true, true, false, false] rfl rfl (by kernel_rfl) (fun _ _ _ h => h) (Or.inl ⟨by rfl, ?_⟩) ?_ ?_
      rotate_left
      · intro w'
        go_simp
        with_reducible rfl
      rotate_left
      · simp only [Act.put, List.setIfInBounds_toArray, List.set_cons_zero, List.set_cons_succ, i64_w, i32_w]
        rfl
      refine pure_ (i := 14) (N := some 38) (v := ?_) (a' := ?_) #[true, true, true, true, true, true, true, true, true, true, true, true, true, true, true, false] rfl rfl (by kernel_rfl) (fun _ _ _ h => h) (Or.inl ⟨by rfl, ?_⟩) ?_ ?_
      rotate_left
      · intro w'
        go_simp
        with_reducible rfl
      rotate_left
      · simp only [Act.put, List.setIfInBounds_toArray, List.set_cons_zero, List.set_cons_succ, i64_w, i32_w]
        rfl
      refine pure_ (i := 15) (N := some 7) (v := ?_) (a' := ?_) #[true, true, true, true, true, true, true, true, true, true, true, true, true, true, true, true] rfl rfl (by kernel_rfl) (fun _ _ _ h => h) (Or.inl ⟨by rfl, ?_⟩) ?_ ?_
      rotate_left
      · intro w'
        go_simp
        with_reducible rfl
      rotate_left
      · simp only [Act.put, List.setIfInBounds_toArray, List.set_cons_zero, List.set_cons_succ, i64_w, i32_w]
        rfl
      refine done_ (by kernel_rfl) ?_
      clear hz1 hz2 hz3 hcl hw8 hwr
      generalize S ++ T ++ s = R at HSN ⊢
      generalize S ++ T = R2
      have HB8 := Aside0.mk (below_drew (below_alloc HBr.out (.cells #[.int .u8 (s.size : Int)] 5)))
      generalize (wr.alloc (.cells #[.int .u8 (s.size : Int)] 5)).drew = w8 at *
      clear hcell hHeld HBr
      go_wp2_with (fail)
      go_roundw
      case rel => exact ⟨i + 1, by go_num, by omega, ⟨_, rfl, ⟨by rw [HSN.out]⟩⟩, HB8⟩
      case measure => simp [intOf]; omega
    · obtain rfl : i = m.length := by omega
      obtain rfl : S = strOfNums E := by rw [hS.out, List.take_of_length_le (Nat.le_refl _), hEE.out]
      clear hS
      have hHP := HP.out
      have hl2 : 2 ≤ (put m).length := by rw [hHP]; simp
      have HPb := Kd.C_below HPR.out HBr.out
      clear HPR
      obtain ⟨ap, rfl, hcells⟩ := C_cells HPb (by omega)
      have c0 : wr.cell? ap = some (.int .u8 m.length) := by
        have h := cells0 hcells (by omega)
        rw [hHP] at h
        exact h
      have c1 : wr.cell? ⟨ap.block, ap.off + 1, none⟩ = some (.int .u8 0) := by
        have h := hcells 1 (by omega)
        rw [hHP] at h
        exact h
      clear hcells
      obtain ⟨A2, hcut, h2, _⟩ := cutFrom (P := Try.prog) 25 5 Try.underlying25 CEach.info_u8 .u8 (some ap) cp _ 2 (by omega) (by omega) lp
      have h3 := h2 _ HPb
      rw [show (put m).drop (2 : Int).toNat = E from by rw [hHP]; rfl] at h3 hcut
      clear h2 HPb
      have hs2 := toStr1 (P := Try.prog) (cp - 2) Try.underlying25 Try.underlying5 Try.underlying9 h3
      have hsE := toStr1 (P := Try.prog) ce Try.underlying25 Try.underlying5 Try.underlying9 (Kd.C_below HE.out HBr.out)
      have hsD := toStr (P := Try.prog) cd Try.underlying25 Try.underlying5 Try.underlying9 (Kd.C_below HD.out HBr.out)
      have hw8 : IntKind.u8.wrap (m.length : Int) = (m.length : Int) := by simp [IntKind.wrap, IntKind.signed, IntKind.bits]; omega
      have hd1 : decide (((put m).length : Int) < 2) = false := decide_eq_false (by omega)
      have hi1 : (1 : Int) < ((put m).length : Int) := by omega
      have hdb := hdB.out
      have hdbi := hdBI.out
      clear h3 hHP HP hl2
      generalize put m = B at *
      go_wp2_with (fail)
      go_ret
      exact ⟨rfl, below_step HB.out HBr.out⟩

theorem walk (A : Option Addr) (c : Nat) (l : List ByteArray) (w : World) (hr : Kd.C Kd.string w A l.length l) (hc : l.length ≤ c) (hn : l.length * 16 ≤ 140737488351232) :
    Calls Try.prog 4 #[.slice A l.length c] w fun e w' => e = .returned (.bool true) ∧ Below w.heap.size w w' := by
  have h6 := fewL_length l
  by_cases hd : (dict (fewL l)).length < (each (fewL l)).length
  · exact core1 A c l _ w hr hc (by omega) rfl h6 (fewL_size l) (by rw [put, if_pos hd, pv_small (by omega)]; rfl) hd
  · exact core0 A c l _ w hr hc (by omega) rfl h6 (fewL_size l) (by rw [put, if_neg hd, pv_small (by omega)]; rfl) hd

end Go.Proofs.Ytnecipeckamiiaa.WTextsLength
