/- The walk of the law IntsBegins. -/
import Derived.Test.YtlhimfkhcdpciaaWIntsLength
namespace Go.Proofs.Ytlhimfkhcdpciaa.WIntsBegins
open Go.RowKit Go.Proofs.YtlhimfkhcdpciaaW.PrintWords Go.Proofs.YtlhimfkhcdpciaaW.PrintLast Go.Proofs.YtlhimfkhcdpciaaW.PrintMore Go.Proofs.Ytlhimfkhcdpciaa.Num Go.Proofs.Ytlhimfkhcdpciaa.Bits Go.Proofs.Ytlhimfkhcdpciaa.Ints Go.Proofs.Ytlhimfkhcdpciaa.CInts Go.Proofs.Ytlhimfkhcdpciaa.Hold Go.Proofs.Ytlhimfkhcdpciaa.WIntsLength
set_option linter.unusedVariables false
set_option linter.unusedSimpArgs false
attribute [local go_sem] max2_int min2_int max_two min_two max_three min_three max_four min_four

set_option maxHeartbeats 8000000 in
set_option maxRecDepth 100000 in
theorem core (A A' : Option Addr) (c c' : Nat) (l l' a b : List Int) (w : World) (HR : Aside0 (Kd.C (Kd.int .i64) w A a.length a)) (HR' : Aside0 (Kd.C (Kd.int .i64) w A' b.length b))
    (hca : a.length ≤ c) (hcb : b.length ≤ c') (hna : a.length ≤ 60) (hnb : b.length ≤ 60)
    (hfa : ∀ W, Calls Try.prog 12 #[.slice A l.length c] W fun e w' => e = .returned (.slice A a.length c) ∧ W = w')
    (hfb : ∀ W, Calls Try.prog 12 #[.slice A' l'.length c'] W fun e w' => e = .returned (.slice A' b.length c') ∧ W = w') :
    Calls Try.prog 5 #[.slice A l.length c, .slice A' l'.length c'] w fun e w' => e = .returned (.bool true) ∧ Below w.heap.size w w' := by
  obtain ⟨ab, hab⟩ : ∃ x, a ++ b = x := ⟨_, rfl⟩
  have hnl : ab.length ≤ 120 := by rw [← hab, List.length_append]; omega
  have HAB := Aside0.mk hab
  clear hab
  have HB := Aside0.mk (Below.refl w.heap.size w)
  have HF := Aside0.mk hfa
  have HG := Aside0.mk hfb
  clear hfa hfb
  go_enter Try.func5, Try.ntmps5
  go_wp2_with (fail)
  (with_reducible refine (shown _).mono ?_); rintro e w1 ⟨rfl, hb⟩
  replace HB := Aside0.mk (below_step HB.out hb); replace HR := Aside0.mk (Kd.C_below HR.out hb); replace HR' := Aside0.mk (Kd.C_below HR'.out hb); clear hb
  go_wp2_with (fail)
  refine (HF.out _).mono ?_; rintro e w2 ⟨rfl, rfl⟩
  clear HF
  go_wp2_with (fail)
  refine (HG.out _).mono ?_; rintro e w2 ⟨rfl, rfl⟩
  clear HG
  go_wp2_with (first
    | (at_builtin; refine appendRow (k := .i64) (w0 := w1) rfl (.tmp 16) (.tmp 17) 25 2 8 rfl Try.underlying25 info_i64 (by decide) _ _ _ _ _ _ rfl rfl (R_empty 2 _) (Kd.C_alloc HR.out _) (below_alloc (Below.refl _ _) _) (by simp; omega) ?_; intro v2 w2 ho2 hb2; rw [List.nil_append] at ho2; have HO2 := Aside0.mk ho2; have HB2 := Aside0.mk hb2; clear ho2 hb2)
    | (at_builtin; refine appendRow (k := .i64) (w0 := w1) rfl (.tmp 18) (.tmp 19) 25 2 8 rfl Try.underlying25 info_i64 (by decide) _ _ _ _ _ _ rfl rfl HO2.out (Kd.C_below HR'.out HB2.out) HB2.out (by omega) ?_; intro v3 w3 ho3 hb3; rw [HAB.out] at ho3; have HO3 := Aside0.mk ho3; have HB3 := Aside0.mk hb3; clear ho3 hb3 HO2 HB2))
  obtain ⟨Al, cl, rfl, ll, ho⟩ := R_C HO3.out
  replace HB := Aside0.mk (below_step HB.out HB3.out); replace HR := Aside0.mk (Kd.C_below HR.out HB3.out); replace HR' := Aside0.mk (Kd.C_below HR'.out HB3.out); have HL := Aside0.mk ho; clear HO3 HB3 ho
  (with_reducible refine (delta Al cl _ _ HL.out ll (by omega)).mono ?_); rintro e w4 ⟨v, rfl, ho, hb⟩
  obtain ⟨Ad, cd, rfl, ld, ho⟩ := R_C ho
  replace HB := Aside0.mk (below_step HB.out hb); replace HR := Aside0.mk (Kd.C_below HR.out hb); replace HR' := Aside0.mk (Kd.C_below HR'.out hb); replace HL := Aside0.mk (Kd.C_below HL.out hb); have HD := Aside0.mk ho; clear hb ho
  go_wp2_with (fail)
  (with_reducible refine (fixed Al cl _ _ HL.out ll (by omega)).mono ?_); rintro e w5 ⟨v, rfl, ho, hb⟩
  obtain ⟨Af, cf, rfl, lf, ho⟩ := R_C ho
  replace HB := Aside0.mk (below_step HB.out hb); replace HR := Aside0.mk (Kd.C_below HR.out hb); replace HR' := Aside0.mk (Kd.C_below HR'.out hb); replace HD := Aside0.mk (Kd.C_below HD.out hb); have HX := Aside0.mk ho; clear hb ho HL
  go_wp2_with (fail)
  (with_reducible refine (delta A c _ _ HR.out hca (by omega)).mono ?_); rintro e w6 ⟨v, rfl, ho, hb⟩
  obtain ⟨Ao, co, rfl, lo, ho⟩ := R_C ho
  replace HB := Aside0.mk (below_step HB.out hb); replace HR := Aside0.mk (Kd.C_below HR.out hb); replace HR' := Aside0.mk (Kd.C_below HR'.out hb); replace HD := Aside0.mk (Kd.C_below HD.out hb); replace HX := Aside0.mk (Kd.C_below HX.out hb); have HO := Aside0.mk ho; clear hb ho
  go_wp2_with (fail)
  (with_reducible refine (fixed A c _ _ HR.out hca (by omega)).mono ?_); rintro e w7 ⟨v, rfl, ho, hb⟩
  obtain ⟨At, ct, rfl, lt, ho⟩ := R_C ho
  replace HB := Aside0.mk (below_step HB.out hb); replace HR' := Aside0.mk (Kd.C_below HR'.out hb); replace HD := Aside0.mk (Kd.C_below HD.out hb); replace HX := Aside0.mk (Kd.C_below HX.out hb); replace HO := Aside0.mk (Kd.C_below HO.out hb); have HT := Aside0.mk ho; clear hb ho HR
  have ed := Aside0.mk (show dl 0 ab = dl 0 a ++ dl (a.getLastD 0) b by rw [← HAB.out]; exact dl_append a b 0)
  have ef := Aside0.mk (show fx ab = fx a ++ fx b by rw [← HAB.out]; exact fx_append a b)
  have hd1 : decide ((dl 0 ab).length < (dl 0 a).length) = false := decide_eq_false (by rw [ed.out, List.length_append]; omega)
  have hd2 : decide ((fx ab).length < (fx a).length) = false := decide_eq_false (by rw [ef.out, List.length_append]; omega)
  have hle : (dl 0 a).length ≤ (dl 0 ab).length := by rw [ed.out, List.length_append]; omega
  have hcut := cutTo (P := Try.prog) 26 5 Try.underlying26 info_u8 Ad (dl 0 ab).length cd ((dl 0 a).length : Int) (by omega) (by omega) ld
  have HD2 : Kd.C (Kd.int .u8) w7 Ad (dl 0 a).length (dl 0 a) := by
    have h := Kd.C_take (m := (dl 0 a).length) HD.out hle
    rw [ed.out, List.take_left' rfl] at h
    exact h
  rw [Int.toNat_natCast] at hcut
  have HS : Aside0 (∀ W, Below w7.heap.size w7 W → (convert 26 9 (.slice Ad (dl 0 a).length cd)).run Try.prog W = .ok (.string (strOfNums (dl 0 a))) W ∧
      (convert 26 9 (.slice Ao (dl 0 a).length co)).run Try.prog W = .ok (.string (strOfNums (dl 0 a))) W ∧
      (convert 26 9 (.slice Af (fx ab).length cf)).run Try.prog W = .ok (.string (strOfNums (fx a) ++ strOfNums (fx b))) W ∧
      (convert 26 9 (.slice At (fx a).length ct)).run Try.prog W = .ok (.string (strOfNums (fx a))) W) := by
    refine ⟨fun W hb => ⟨toStr1 (P := Try.prog) cd Try.underlying26 Try.underlying5 Try.underlying9 (Kd.C_below HD2 hb), toStr1 (P := Try.prog) co Try.underlying26 Try.underlying5 Try.underlying9 (Kd.C_below HO.out hb), ?_, toStr1 (P := Try.prog) ct Try.underlying26 Try.underlying5 Try.underlying9 (Kd.C_below HT.out hb)⟩⟩
    have h := toStr1 (P := Try.prog) cf Try.underlying26 Try.underlying5 Try.underlying9 (Kd.C_below HX.out hb)
    rw [show strOfNums (fx ab) = strOfNums (fx a) ++ strOfNums (fx b) from by rw [ef.out, str_append]] at h
    exact h
  have hs0 := HS.out _ (Below.refl _ _)
  have hs1 := HS.out _ (below_drew (Below.refl _ _))
  have hcat : ¬ 9223372036854775807 < (strOfNums (fx a)).size + (strOfNums (fx b)).size := by rw [strOfNums_size, strOfNums_size, fx_length, fx_length]; omega
  clear HD2 HD
  go_wp2_with (fail)
  refine start_ (n := 23) (S := fun w' => (convert 26 9 (.slice Ad (dl 0 a).length cd)).run Try.prog w' = .ok (.string (strOfNums (dl 0 a))) w' ∧ (convert 26 9 (.slice Ao (dl 0 a).length co)).run Try.prog w' = .ok (.string (strOfNums (dl 0 a))) w' ∧ (convert 26 9 (.slice Af (fx ab).length cf)).run Try.prog w' = .ok (.string (strOfNums (fx a) ++ strOfNums (fx b))) w' ∧ (convert 26 9 (.slice At (fx a).length ct)).run Try.prog w' = .ok (.string (strOfNums (fx a))) w') (ds := []) #[false, false, false, false, false, false, false, false, false, false, false, false, false, false, false, false, false, false, false, false, false, false, false] (by kernel_rfl) rfl rfl ⟨hs1.1, hs1.2.1, hs1.2.2.1, hs1.2.2.2⟩ (fun hHeld => ?_)
  refine pure_ (i := 0) (N := some 41) (v := ?_) (a' := ?_) #[true, false, false, false, false, false, false, false, false, false, false, false, false, false, false, false, false, false, false, false, false, false, false] rfl rfl (by kernel_rfl) (fun _ _ _ h => h) (Or.inl ⟨by rfl, ?_⟩) ?_ ?_
  rotate_left
  · intro w'
    go_simp
    with_reducible rfl
  rotate_left
  · simp only [Act.put, List.setIfInBounds_toArray, List.set_cons_zero, List.set_cons_succ, i64_w, i32_w]
    rfl
  refine pure_ (i := 1) (N := some 42) (v := ?_) (a' := ?_) #[true, true, false, false, false, false, false, false, false, false, false, false, false, false, false, false, false, false, false, false, false, false, false] rfl rfl (by kernel_rfl) (fun _ _ _ h => h) (Or.inl ⟨by rfl, ?_⟩) ?_ ?_
  rotate_left
  · intro w'
    go_simp
    with_reducible rfl
  rotate_left
  · simp only [Act.put, List.setIfInBounds_toArray, List.set_cons_zero, List.set_cons_succ, i64_w, i32_w]
    rfl
  refine pure_ (i := 2) (N := some 43) (v := ?_) (a' := ?_) #[true, true, true, false, false, false, false, false, false, false, false, false, false, false, false, false, false, false, false, false, false, false, false] rfl rfl (by kernel_rfl) (fun _ _ _ h => h) (Or.inl ⟨by rfl, ?_⟩) ?_ ?_
  rotate_left
  · intro w'
    go_simp
    with_reducible rfl
  rotate_left
  · simp only [Act.put, List.setIfInBounds_toArray, List.set_cons_zero, List.set_cons_succ, i64_w, i32_w]
    rfl
  refine pure_ (i := 3) (N := some 44) (v := ?_) (a' := ?_) #[true, true, true, true, false, false, false, false, false, false, false, false, false, false, false, false, false, false, false, false, false, false, false] rfl rfl (by kernel_rfl) (fun _ _ _ h => h) (Or.inl ⟨by rfl, ?_⟩) ?_ ?_
  rotate_left
  · intro w'
    go_simp
    with_reducible rfl
  rotate_left
  · simp only [Act.put, List.setIfInBounds_toArray, List.set_cons_zero, List.set_cons_succ, i64_w, i32_w]
    rfl
  refine pure_ (i := 4) (N := some 45) (v := ?_) (a' := ?_) #[true, true, true, true, true, false, false, false, false, false, false, false, false, false, false, false, false, false, false, false, false, false, false] rfl rfl (by kernel_rfl) (fun _ _ _ h => h) (Or.inl ⟨by rfl, ?_⟩) ?_ ?_
  rotate_left
  · intro w'
    go_simp
    with_reducible rfl
  rotate_left
  · simp only [Act.put, List.setIfInBounds_toArray, List.set_cons_zero, List.set_cons_succ, i64_w, i32_w]
    rfl
  refine pure_ (i := 5) (N := some 46) (v := ?_) (a' := ?_) #[true, true, true, true, true, true, false, false, false, false, false, false, false, false, false, false, false, false, false, false, false, false, false] rfl rfl (by kernel_rfl) (fun _ _ _ h => h) (Or.inl ⟨by rfl, ?_⟩) ?_ ?_
  rotate_left
  · intro w'
    go_simp
    with_reducible rfl
  rotate_left
  · simp only [Act.put, List.setIfInBounds_toArray, List.set_cons_zero, List.set_cons_succ, i64_w, i32_w]
    rfl
  refine pure_ (i := 7) (N := some 48) (v := ?_) (a' := ?_) #[true, true, true, true, true, true, false, true, false, false, false, false, false, false, false, false, false, false, false, false, false, false, false] rfl rfl (by kernel_rfl) (fun _ _ _ h => h) (Or.inl ⟨by rfl, ?_⟩) ?_ ?_
  rotate_left
  · intro w'
    go_simp
    with_reducible rfl
  rotate_left
  · simp only [Act.put, List.setIfInBounds_toArray, List.set_cons_zero, List.set_cons_succ, i64_w, i32_w]
    rfl
  refine take_ (i := 6) (N := some 47) (v := ?_) (a' := ?_) #[true, true, true, true, true, true, true, true, false, false, false, false, false, false, false, false, false, false, false, false, false, false, false] rfl rfl (by kernel_rfl) (fun _ _ _ h => h) (Or.inl ⟨by rfl, ?_⟩) hHeld ?_ ?_
  rotate_left
  · rintro w' ⟨s0, s1, s2, s3⟩
    go_simp
    with_reducible rfl
  rotate_left
  · simp only [Act.put, List.setIfInBounds_toArray, List.set_cons_zero, List.set_cons_succ, i64_w, i32_w]
    rfl
  refine take_ (i := 8) (N := some 49) (v := ?_) (a' := ?_) #[true, true, true, true, true, true, true, true, true, false, false, false, false, false, false, false, false, false, false, false, false, false, false] rfl rfl (by kernel_rfl) (fun _ _ _ h => h) (Or.inl ⟨by rfl, ?_⟩) hHeld ?_ ?_
  rotate_left
  · rintro w' ⟨s0, s1, s2, s3⟩
    go_simp
    with_reducible rfl
  rotate_left
  · simp only [Act.put, List.setIfInBounds_toArray, List.set_cons_zero, List.set_cons_succ, i64_w, i32_w]
    rfl
  refine pure_ (i := 9) (N := some 50) (v := ?_) (a' := ?_) #[true, true, true, true, true, true, true, true, true, true, false, false, false, false, false, false, false, false, false, false, false, false, false] rfl rfl (by kernel_rfl) (fun _ _ _ h => h) (Or.inl ⟨by rfl, ?_⟩) ?_ ?_
  rotate_left
  · intro w'
    go_simp
    with_reducible rfl
  rotate_left
  · simp only [Act.put, List.setIfInBounds_toArray, List.set_cons_zero, List.set_cons_succ, i64_w, i32_w]
    rfl
  refine pure_ (i := 10) (N := some 51) (v := ?_) (a' := ?_) #[true, true, true, true, true, true, true, true, true, true, true, false, false, false, false, false, false, false, false, false, false, false, false] rfl rfl (by kernel_rfl) (fun _ _ _ h => h) (Or.inl ⟨by rfl, ?_⟩) ?_ ?_
  rotate_left
  · intro w'
    go_simp
    with_reducible rfl
  rotate_left
  · simp only [Act.put, List.setIfInBounds_toArray, List.set_cons_zero, List.set_cons_succ, i64_w, i32_w]
    rfl
  refine pure_ (i := 11) (N := some 52) (v := ?_) (a' := ?_) #[true, true, true, true, true, true, true, true, true, true, true, true, false, false, false, false, false, false, false, false, false, false, false] rfl rfl (by kernel_rfl) (fun _ _ _ h => h) (Or.inl ⟨by rfl, ?_⟩) ?_ ?_
  rotate_left
  · intro w'
    go_simp
    with_reducible rfl
  rotate_left
  · simp only [Act.put, List.setIfInBounds_toArray, List.set_cons_zero, List.set_cons_succ, i64_w, i32_w]
    rfl
  refine pure_ (i := 12) (N := some 53) (v := ?_) (a' := ?_) #[true, true, true, true, true, true, true, true, true, true, true, true, true, false, false, false, false, false, false, false, false, false, false] rfl rfl (by kernel_rfl) (fun _ _ _ h => h) (Or.inl ⟨by rfl, ?_⟩) ?_ ?_
  rotate_left
  · intro w'
    go_simp
    with_reducible rfl
  rotate_left
  · simp only [Act.put, List.setIfInBounds_toArray, List.set_cons_zero, List.set_cons_succ, i64_w, i32_w]
    rfl
  refine pure_ (i := 14) (N := some 55) (v := ?_) (a' := ?_) #[true, true, true, true, true, true, true, true, true, true, true, true, true, false, true, false, false, false, false, false, false, false, false] rfl rfl (by kernel_rfl) (fun _ _ _ h => h) (Or.inl ⟨by rfl, ?_⟩) ?_ ?_
  rotate_left
  · intro w'
    go_simp
    with_reducible rfl
  rotate_left
  · simp only [Act.put, List.setIfInBounds_toArray, List.set_cons_zero, List.set_cons_succ, i64_w, i32_w]
    rfl
  refine pure_ (i := 16) (N := some 57) (v := ?_) (a' := ?_) #[true, true, true, true, true, true, true, true, true, true, true, true, true, false, true, false, true, false, false, false, false, false, false] rfl rfl (by kernel_rfl) (fun _ _ _ h => h) (Or.inl ⟨by rfl, ?_⟩) ?_ ?_
  rotate_left
  · intro w'
    go_simp
    with_reducible rfl
  rotate_left
  · simp only [Act.put, List.setIfInBounds_toArray, List.set_cons_zero, List.set_cons_succ, i64_w, i32_w]
    rfl
  refine take_ (i := 13) (N := some 54) (v := ?_) (a' := ?_) #[true, true, true, true, true, true, true, true, true, true, true, true, true, true, true, false, true, false, false, false, false, false, false] rfl rfl (by kernel_rfl) (fun _ _ _ h => h) (Or.inl ⟨by rfl, ?_⟩) hHeld ?_ ?_
  rotate_left
  · rintro w' ⟨s0, s1, s2, s3⟩
    go_simp
    with_reducible rfl
  rotate_left
  · simp only [Act.put, List.setIfInBounds_toArray, List.set_cons_zero, List.set_cons_succ, i64_w, i32_w]
    rfl
  refine take_ (i := 15) (N := some 56) (v := ?_) (a' := ?_) #[true, true, true, true, true, true, true, true, true, true, true, true, true, true, true, true, true, false, false, false, false, false, false] rfl rfl (by kernel_rfl) (fun _ _ _ h => h) (Or.inl ⟨by rfl, ?_⟩) hHeld ?_ ?_
  rotate_left
  · rintro w' ⟨s0, s1, s2, s3⟩
    go_simp
    with_reducible rfl
  rotate_left
  · simp only [Act.put, List.setIfInBounds_toArray, List.set_cons_zero, List.set_cons_succ, i64_w, i32_w]
    rfl
  refine one_ (i := 17) (N := some 58) #[true, true, true, true, true, true, true, true, true, true, true, true, true, true, true, true, true, true, false, false, false, false, false] rfl rfl (by kernel_rfl) (by decide) (fun K hK => ?_)
  refine goes_ Try.func11 (by kernel_rfl) rfl #[.slice A' b.length c'] (by rfl) rfl rfl (by simp only [List.map_toArray, List.map_cons, List.map_nil]; rfl) ?_
  refine (fixed A' c' b _ (Kd.C_drew HR'.out) hcb (by omega)).mono ?_
  rintro e w8 ⟨v, rfl, ho, hb⟩
  refine ⟨_, rfl, ?_⟩
  obtain ⟨Ab, cb, rfl, lb, ho⟩ := R_C ho
  have s8 := toStr1 (P := Try.prog) cb Try.underlying26 Try.underlying5 Try.underlying9 ho
  have hs1 := HS.out _ (below_step (below_drew (Below.refl _ _)) hb)
  have HB8 := Aside0.mk (below_step (below_drew HB.out) hb)
  clear ho hb
  refine hK.out _ _ ⟨hs1.1, hs1.2.1, hs1.2.2.1, hs1.2.2.2⟩ (fun hHeld => ?_)
  clear hK K
  refine norm_ (a' := ?_) ?_ ?_
  rotate_left
  · show Act.put _ (some 58) _ = _
    simp only [Act.put, List.setIfInBounds_toArray, List.set_cons_zero, List.set_cons_succ, i64_w, i32_w]
    rfl
  refine one_ (i := 18) (N := some 59) #[true, true, true, true, true, true, true, true, true, true, true, true, true, true, true, true, true, true, true, false, false, false, false] rfl rfl (by kernel_rfl) (by decide) (fun K hK => ?_)
  refine value_ (w1 := ?_) (v := ?_) (by rfl) rfl ?_ ?_
  rotate_left 2
  · go_simp
    constructor
    · rfl
    · rfl
  refine hK.out _ _ ⟨hs1.1, hs1.2.1, hs1.2.2.1, hs1.2.2.2⟩ (fun hHeld => ?_)
  clear hK K
  refine norm_ (a' := ?_) ?_ ?_
  rotate_left
  · show Act.put _ (some 59) _ = _
    simp only [Act.put, List.setIfInBounds_toArray, List.set_cons_zero, List.set_cons_succ, i64_w, i32_w]
    rfl
  refine pure_ (i := 19) (N := some 60) (v := ?_) (a' := ?_) #[true, true, true, true, true, true, true, true, true, true, true, true, true, true, true, true, true, true, true, true, false, false, false] rfl rfl (by kernel_rfl) (fun _ _ _ h => h) (Or.inl ⟨by rfl, ?_⟩) ?_ ?_
  rotate_left
  · intro w'
    go_simp
    with_reducible rfl
  rotate_left
  · simp only [Act.put, List.setIfInBounds_toArray, List.set_cons_zero, List.set_cons_succ, i64_w, i32_w]
    rfl
  refine pure_ (i := 20) (N := some 61) (v := ?_) (a' := ?_) #[true, true, true, true, true, true, true, true, true, true, true, true, true, true, true, true, true, true, true, true, true, false, false] rfl rfl (by kernel_rfl) (fun _ _ _ h => h) (Or.inl ⟨by rfl, ?_⟩) ?_ ?_
  rotate_left
  · intro w'
    go_simp
    with_reducible rfl
  rotate_left
  · simp only [Act.put, List.setIfInBounds_toArray, List.set_cons_zero, List.set_cons_succ, i64_w, i32_w]
    rfl
  refine pure_ (i := 21) (N := some 62) (v := ?_) (a' := ?_) #[true, true, true, true, true, true, true, true, true, true, true, true, true, true, true, true, true, true, true, true, true, true, false] rfl rfl (by kernel_rfl) (fun _ _ _ h => h) (Or.inl ⟨by rfl, ?_⟩) ?_ ?_
  rotate_left
  · intro w'
    go_simp
    with_reducible rfl
  rotate_left
  · simp only [Act.put, List.setIfInBounds_toArray, List.set_cons_zero, List.set_cons_succ, i64_w, i32_w]
    rfl
  refine pure_ (i := 22) (N := some 4) (v := ?_) (a' := ?_) #[true, true, true, true, true, true, true, true, true, true, true, true, true, true, true, true, true, true, true, true, true, true, true] rfl rfl (by kernel_rfl) (fun _ _ _ h => h) (Or.inl ⟨by rfl, ?_⟩) ?_ ?_
  rotate_left
  · intro w'
    go_simp
    with_reducible rfl
  rotate_left
  · simp only [Act.put, List.setIfInBounds_toArray, List.set_cons_zero, List.set_cons_succ, i64_w, i32_w]
    rfl
  refine done_ (by kernel_rfl) ?_
  go_wp2_with (fail)
  go_ret
  exact ⟨rfl, HB8.out⟩

theorem walk (A : Option Addr) (c : Nat) (l : List Int) (A' : Option Addr) (c' : Nat) (l' : List Int) (w : World) (hr : Kd.C (Kd.int .i64) w A l.length l) (hc : l.length ≤ c) (_hw : ∀ n ∈ l, (Lit.int .i64 n).wf = true) (hy : l.length * 8 ≤ 140737488351232)
    (hr' : Kd.C (Kd.int .i64) w A' l'.length l') (hc' : l'.length ≤ c') (_hw' : ∀ n ∈ l', (Lit.int .i64 n).wf = true) (hy' : l'.length * 8 ≤ 140737488351232) :
    Calls Try.prog 5 #[.slice A l.length c, .slice A' l'.length c'] w fun e w' => e = .returned (.bool true) ∧ Below w.heap.size w w' :=
  core A A' c c' l l' (l.take 60) (l'.take 60) w (Aside0.mk (C_take_any 60 hr)) (Aside0.mk (C_take_any 60 hr')) (by rw [List.length_take]; omega) (by rw [List.length_take]; omega) (by rw [List.length_take]; omega) (by rw [List.length_take]; omega)
    (fun W => few A c l W hc (by omega)) (fun W => few A' c' l' W hc' (by omega))

end Go.Proofs.Ytlhimfkhcdpciaa.WIntsBegins
