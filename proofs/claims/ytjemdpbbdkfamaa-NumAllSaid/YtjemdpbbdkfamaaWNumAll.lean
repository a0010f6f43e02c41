/- The walk of the law NumAll. -/
import Derived.Test.YtjemdpbbdkfamaaWNumWhole
import Derived.Test.YtjemdpbbdkfamaaCRef
namespace Go.Proofs.Ytjemdpbbdkfamaa.WNumAll
open Go.RowKit Go.Proofs.YtjemdpbbdkfamaaW.PrintWords Go.Proofs.YtjemdpbbdkfamaaW.PrintLast Go.Proofs.YtjemdpbbdkfamaaW.PrintMore Go.Proofs.Ytjemdpbbdkfamaa.Num Go.Proofs.Ytjemdpbbdkfamaa.Bits Go.Proofs.Ytjemdpbbdkfamaa.VarM Go.Proofs.Ytjemdpbbdkfamaa.CNum Go.Proofs.Ytjemdpbbdkfamaa.CVar Go.Proofs.Ytjemdpbbdkfamaa.Hold Go.Proofs.Ytjemdpbbdkfamaa.CPut64 Go.Proofs.Ytjemdpbbdkfamaa.CRef
open Go.Proofs.Ytjemdpbbdkfamaa.WNumWhole (shortC)
set_option linter.unusedVariables false
set_option linter.unusedSimpArgs false
attribute [local go_sem] max2_int min2_int max_two min_two max_three min_three max_four min_four

set_option maxHeartbeats 8000000 in
set_option maxRecDepth 100000 in
theorem core (x n : Int) (A : Option Addr) (c : Nat) (l s : List Int) (w : World) (x0 : 0 ≤ x) (x1 : x ≤ 18446744073709551615) (n0 : -9223372036854775808 ≤ n) (n1 : n ≤ 9223372036854775807) (HR : Aside0 (Kd.C (Kd.int .u8) w A s.length s)) (hcs : s.length ≤ c) (h40 : s.length ≤ 40) (hsb : Aside0 (Bytes s))
    (hf : ∀ W, Calls Try.prog 14 #[.slice A l.length c] W fun e w' => e = .returned (.slice A s.length c) ∧ W = w') :
    Calls Try.prog 8 #[.int .u64 x, .int .i64 n, .slice A l.length c] w fun e w' => e = .returned (.bool true) ∧ Below w.heap.size w w' := by
  have HB := Aside0.mk (Below.refl w.heap.size w)
  have HF := Aside0.mk hf
  clear hf
  have HV : Aside0 (∀ (W : World), Kd.C (Kd.int .u8) W A s.length s → Calls Try.prog 13 #[.slice A s.length c] W fun e w' => e = .returned (.tuple #[.int .u64 (var s).1, .int .i64 (var s).2]) ∧ Drawn0 W w') := ⟨fun W h => varC A c s W h hcs hsb.out (by omega)⟩
  have HV2 : Aside0 (∀ (W : World), Kd.C (Kd.int .u8) W A s.length s → Calls Try.prog 17 #[.slice A s.length c] W fun e w' => e = .returned (.tuple #[.int .u64 (var s).1, .int .i64 (var s).2]) ∧ Below W.heap.size W w') := ⟨fun W h => refVar A c s W h hcs hsb.out⟩
  have HG : Aside0 (∀ (W : World), Kd.C (Kd.int .u8) W A s.length s → Calls Try.prog 16 #[.slice A s.length c] W fun e w' => e = .returned (.tuple #[.int .u64 (g64 s).1, .bool (g64 s).2]) ∧ W = w') := ⟨fun W h => get64 A c s W h hcs hsb.out⟩
  have HG2 : Aside0 (∀ (W : World), Kd.C (Kd.int .u8) W A s.length s → Calls Try.prog 18 #[.slice A s.length c] W fun e w' => e = .returned (.tuple #[.int .u64 (g64 s).1, .bool (g64 s).2]) ∧ Drawn0 W w') := ⟨fun W h => refGet64 A c s W h hcs hsb.out⟩
  generalize var s = V at HV HV2
  generalize g64 s = G at HG HG2
  obtain ⟨V1, V2⟩ := V
  obtain ⟨G1, G2⟩ := G
  obtain ⟨P, hP⟩ : ∃ P, pv x.toNat = P := ⟨_, rfl⟩
  obtain ⟨Q, hQ⟩ : ∃ Q, cl x = Q := ⟨_, rfl⟩
  have HP := Aside0.mk hP
  have HQ := Aside0.mk hQ
  clear hP hQ
  obtain ⟨Z, hZ⟩ : ∃ Z, zig n = Z := ⟨_, rfl⟩
  obtain ⟨Y, hY⟩ : ∃ Y, zag x = Y := ⟨_, rfl⟩
  have HZ := Aside0.mk hZ
  have HY := Aside0.mk hY
  clear hZ hY
  go_enter Try.func8, Try.ntmps8
  go_wp2_with (fail)
  (with_reducible refine (shown _).mono ?_); rintro e w1 ⟨rfl, hb⟩
  replace HB := Aside0.mk (below_step HB.out hb); replace HR := Aside0.mk (Kd.C_below HR.out hb); clear hb
  go_wp2_with (fail)
  refine (HF.out _).mono ?_; rintro e w2 ⟨rfl, rfl⟩
  go_wp2_with (fail)
  refine (HV.out _ HR.out).mono ?_; rintro e w2 ⟨rfl, ⟨nd, rfl⟩⟩
  replace HB := Aside0.mk (pw_below_drewN HB.out nd); replace HR := Aside0.mk (Kd.C_drewN HR.out nd)
  generalize w1.drewN nd = w3 at *
  go_wp2_with (fail)
  refine (HV2.out _ HR.out).mono ?_; rintro e w4 ⟨rfl, hb⟩
  replace HB := Aside0.mk (below_step HB.out hb); replace HR := Aside0.mk (Kd.C_below HR.out hb); clear hb
  go_wp2_with (fail)
  refine (HG.out _ HR.out).mono ?_; rintro e w5 ⟨rfl, rfl⟩
  go_wp2_with (fail)
  refine (HG2.out _ HR.out).mono ?_; rintro e w6 ⟨rfl, ⟨nd, rfl⟩⟩
  replace HB := Aside0.mk (pw_below_drewN HB.out nd)
  clear HR HF HV HV2 HG HG2
  generalize w4.drewN nd = w7 at *
  go_wp2_with (fail)
  have HBR := Aside0.mk (below_drew (Below.refl w7.heap.size w7))
  refine start_ (n := 17) (S := fun w' => True) (ds := []) #[false, false, false, false, false, false, false, false, false, false, false, false, false, false, false, false, false] (by kernel_rfl) rfl rfl trivial (fun hHeld => ?_)
  refine pure_ (i := 0) (N := some 40) (v := ?_) (a' := ?_) #[true, false, false, false, false, false, false, false, false, false, false, false, false, false, false, false, false] rfl rfl (by kernel_rfl) (fun _ _ _ h => h) (Or.inl ⟨by rfl, ?_⟩) ?_ ?_
  rotate_left
  · intro w'
    go_simp
    with_reducible rfl
  rotate_left
  · simp only [Act.put, List.setIfInBounds_toArray, List.set_cons_zero, List.set_cons_succ, i64_w, i32_w]
    rfl
  refine pure_ (i := 3) (N := some 43) (v := ?_) (a' := ?_) #[true, false, false, true, false, false, false, false, false, false, false, false, false, false, false, false, false] rfl rfl (by kernel_rfl) (fun _ _ _ h => h) (Or.inl ⟨by rfl, ?_⟩) ?_ ?_
  rotate_left
  · intro w'
    go_simp
    with_reducible rfl
  rotate_left
  · simp only [Act.put, List.setIfInBounds_toArray, List.set_cons_zero, List.set_cons_succ, i64_w, i32_w]
    rfl
  refine one_ (i := 1) (N := some 41) #[true, true, false, true, false, false, false, false, false, false, false, false, false, false, false, false, false] rfl rfl (by kernel_rfl) (by decide) (fun K hK => ?_)
  refine goes_ Try.func10 (by kernel_rfl) rfl #[.int .u64 x] (by rfl) rfl rfl (by simp only [List.map_toArray, List.map_cons, List.map_nil]; rfl) ?_
  refine (putVar x x0 x1 _).mono ?_
  rintro e wc ⟨v, rfl, ho, hb⟩
  refine ⟨_, rfl, ?_⟩
  rw [HP.out] at ho
  obtain ⟨A1, c1, rfl, l1, ho⟩ := R_C ho
  have HC1 := Aside0.mk ho
  replace HBR := Aside0.mk (below_step HBR.out hb)
  clear ho hb
  refine hK.out _ _ trivial (fun hHeld => ?_)
  clear hK K
  refine norm_ (a' := ?_) ?_ ?_
  rotate_left
  · show Act.put _ (some 41) _ = _
    simp only [Act.put, List.setIfInBounds_toArray, List.set_cons_zero, List.set_cons_succ, i64_w, i32_w]
    rfl
  refine join_ (σ := Value) 11 #[true, true, true, true, true, true, false, false, false, false, false, false, false, false, false, false, false] (fun s => [(42, .string (strOfNums P)), (44, s), (45, .string (strOfNums P))]) (fun _ w' => Below w7.heap.size w7 w') ?_ ?_
  rotate_left
  · intro hCont
    refine two_ (i := 2) (j := 4) (Ni := some 42) (Nj := some 44) #[true, true, true, true, false, false, false, false, false, false, false, false, false, false, false, false, false] #[true, true, false, true, true, false, false, false, false, false, false, false, false, false, false, false, false] rfl rfl rfl rfl (by kernel_rfl) (by decide) (by decide) (fun K hK => ?_) (fun K hK => ?_)
    · skip
      have s2 := toStr1 (P := Try.prog) c1 Try.underlying24 Try.underlying5 Try.underlying9 HC1.out
      refine value_ (w1 := ?_) (v := ?_) (by rfl) rfl ?_ ?_
      rotate_left 2
      · go_simp
        constructor
        · rfl
        · rfl
      refine hK.out _ _ trivial (fun hHeld => ?_)
      clear hK K
      refine norm_ (a' := ?_) ?_ ?_
      rotate_left
      · show Act.put _ (some 42) _ = _
        simp only [Act.put, List.setIfInBounds_toArray, List.set_cons_zero, List.set_cons_succ, i64_w, i32_w]
        rfl
      refine one_ (i := 4) (N := some 44) #[true, true, true, true, true, false, false, false, false, false, false, false, false, false, false, false, false] rfl rfl (by kernel_rfl) (by decide) (fun K hK => ?_)
      refine goes_ Try.func19 (by kernel_rfl) rfl #[.int .u64 x] (by rfl) rfl rfl (by simp only [List.map_toArray, List.map_cons, List.map_nil]; rfl) ?_
      refine (refPut x x0 x1 _).mono ?_
      rintro e wc ⟨v, rfl, ho, hb⟩
      refine ⟨_, rfl, ?_⟩
      rw [HP.out] at ho
      obtain ⟨A4, c4, rfl, l4, ho⟩ := R_C ho
      have HC4 := Aside0.mk ho
      replace HBR := Aside0.mk (below_step HBR.out hb)
      clear ho hb
      refine hK.out _ _ trivial (fun hHeld => ?_)
      clear hK K
      refine norm_ (a' := ?_) ?_ ?_
      rotate_left
      · show Act.put _ (some 44) _ = _
        simp only [Act.put, List.setIfInBounds_toArray, List.set_cons_zero, List.set_cons_succ, i64_w, i32_w]
        rfl
      refine one_ (i := 5) (N := some 45) #[true, true, true, true, true, true, false, false, false, false, false, false, false, false, false, false, false] rfl rfl (by kernel_rfl) (by decide) (fun K hK => ?_)
      have s5 := toStr1 (P := Try.prog) c4 Try.underlying24 Try.underlying5 Try.underlying9 HC4.out
      refine value_ (w1 := ?_) (v := ?_) (by rfl) rfl ?_ ?_
      rotate_left 2
      · go_simp
        constructor
        · rfl
        · rfl
      refine hK.out _ _ trivial (fun hHeld => ?_)
      clear hK K
      refine norm_ (a' := ?_) ?_ ?_
      rotate_left
      · show Act.put _ (some 45) _ = _
        simp only [Act.put, List.setIfInBounds_toArray, List.set_cons_zero, List.set_cons_succ, i64_w, i32_w]
        rfl
      exact norm_ (by simp only [putAll, Act.put, List.setIfInBounds_toArray, List.set_cons_zero, List.set_cons_succ]) (hCont (.slice A4 P.length c4) _ HBR.out)
    · skip
      refine goes_ Try.func19 (by kernel_rfl) rfl #[.int .u64 x] (by rfl) rfl rfl (by simp only [List.map_toArray, List.map_cons, List.map_nil]; rfl) ?_
      refine (refPut x x0 x1 _).mono ?_
      rintro e wc ⟨v, rfl, ho, hb⟩
      refine ⟨_, rfl, ?_⟩
      rw [HP.out] at ho
      obtain ⟨A4, c4, rfl, l4, ho⟩ := R_C ho
      have HC4 := Aside0.mk ho
      replace HBR := Aside0.mk (below_step HBR.out hb)
      replace HC1 := Aside0.mk (Kd.C_below HC1.out hb)
      clear ho hb
      refine hK.out _ _ trivial (fun hHeld => ?_)
      clear hK K
      refine norm_ (a' := ?_) ?_ ?_
      rotate_left
      · show Act.put _ (some 44) _ = _
        simp only [Act.put, List.setIfInBounds_toArray, List.set_cons_zero, List.set_cons_succ, i64_w, i32_w]
        rfl
      refine two_ (i := 2) (j := 5) (Ni := some 42) (Nj := some 45) #[true, true, true, true, true, false, false, false, false, false, false, false, false, false, false, false, false] #[true, true, false, true, true, true, false, false, false, false, false, false, false, false, false, false, false] rfl rfl rfl rfl (by kernel_rfl) (by decide) (by decide) (fun K hK => ?_) (fun K hK => ?_)
      · skip
        have s2 := toStr1 (P := Try.prog) c1 Try.underlying24 Try.underlying5 Try.underlying9 HC1.out
        refine value_ (w1 := ?_) (v := ?_) (by rfl) rfl ?_ ?_
        rotate_left 2
        · go_simp
          constructor
          · rfl
          · rfl
        refine hK.out _ _ trivial (fun hHeld => ?_)
        clear hK K
        refine norm_ (a' := ?_) ?_ ?_
        rotate_left
        · show Act.put _ (some 42) _ = _
          simp only [Act.put, List.setIfInBounds_toArray, List.set_cons_zero, List.set_cons_succ, i64_w, i32_w]
          rfl
        refine one_ (i := 5) (N := some 45) #[true, true, true, true, true, true, false, false, false, false, false, false, false, false, false, false, false] rfl rfl (by kernel_rfl) (by decide) (fun K hK => ?_)
        have s5 := toStr1 (P := Try.prog) c4 Try.underlying24 Try.underlying5 Try.underlying9 HC4.out
        refine value_ (w1 := ?_) (v := ?_) (by rfl) rfl ?_ ?_
        rotate_left 2
        · go_simp
          constructor
          · rfl
          · rfl
        refine hK.out _ _ trivial (fun hHeld => ?_)
        clear hK K
        refine norm_ (a' := ?_) ?_ ?_
        rotate_left
        · show Act.put _ (some 45) _ = _
          simp only [Act.put, List.setIfInBounds_toArray, List.set_cons_zero, List.set_cons_succ, i64_w, i32_w]
          rfl
        exact norm_ (by simp only [putAll, Act.put, List.setIfInBounds_toArray, List.set_cons_zero, List.set_cons_succ]) (hCont (.slice A4 P.length c4) _ HBR.out)
      · skip
        have s5 := toStr1 (P := Try.prog) c4 Try.underlying24 Try.underlying5 Try.underlying9 HC4.out
        refine value_ (w1 := ?_) (v := ?_) (by rfl) rfl ?_ ?_
        rotate_left 2
        · go_simp
          constructor
          · rfl
          · rfl
        refine hK.out _ _ trivial (fun hHeld => ?_)
        clear hK K
        refine norm_ (a' := ?_) ?_ ?_
        rotate_left
        · show Act.put _ (some 45) _ = _
          simp only [Act.put, List.setIfInBounds_toArray, List.set_cons_zero, List.set_cons_succ, i64_w, i32_w]
          rfl
        refine one_ (i := 2) (N := some 42) #[true, true, true, true, true, true, false, false, false, false, false, false, false, false, false, false, false] rfl rfl (by kernel_rfl) (by decide) (fun K hK => ?_)
        have s2 := toStr1 (P := Try.prog) c1 Try.underlying24 Try.underlying5 Try.underlying9 HC1.out
        refine value_ (w1 := ?_) (v := ?_) (by rfl) rfl ?_ ?_
        rotate_left 2
        · go_simp
          constructor
          · rfl
          · rfl
        refine hK.out _ _ trivial (fun hHeld => ?_)
        clear hK K
        refine norm_ (a' := ?_) ?_ ?_
        rotate_left
        · show Act.put _ (some 42) _ = _
          simp only [Act.put, List.setIfInBounds_toArray, List.set_cons_zero, List.set_cons_succ, i64_w, i32_w]
          rfl
        exact norm_ (by simp only [putAll, Act.put, List.setIfInBounds_toArray, List.set_cons_zero, List.set_cons_succ]) (hCont (.slice A4 P.length c4) _ HBR.out)
  rintro v4 w21 hb8
  have hHeld : True := trivial
  replace HBR := Aside0.mk hb8
  clear hb8
  refine norm_ (a' := ?_) ?_ ?_
  rotate_left
  · simp only [putAll, Act.put, List.setIfInBounds_toArray, List.set_cons_zero, List.set_cons_succ]
    rfl
  refine pure_ (i := 6) (N := some 46) (v := ?_) (a' := ?_) #[true, true, true, true, true, true, true, false, false, false, false, false, false, false, false, false, false] rfl rfl (by kernel_rfl) (fun _ _ _ h => h) (Or.inl ⟨by rfl, ?_⟩) ?_ ?_
  rotate_left
  · intro w'
    go_simp
    with_reducible rfl
  rotate_left
  · simp only [Act.put, List.setIfInBounds_toArray, List.set_cons_zero, List.set_cons_succ, i64_w, i32_w]
    rfl
  refine pure_ (i := 7) (N := some 47) (v := ?_) (a' := ?_) #[true, true, true, true, true, true, true, true, false, false, false, false, false, false, false, false, false] rfl rfl (by kernel_rfl) (fun _ _ _ h => h) (Or.inl ⟨by rfl, ?_⟩) ?_ ?_
  rotate_left
  · intro w'
    go_simp
    with_reducible rfl
  rotate_left
  · simp only [Act.put, List.setIfInBounds_toArray, List.set_cons_zero, List.set_cons_succ, i64_w, i32_w]
    rfl
  refine pure_ (i := 8) (N := some 48) (v := ?_) (a' := ?_) #[true, true, true, true, true, true, true, true, true, false, false, false, false, false, false, false, false] rfl rfl (by kernel_rfl) (fun _ _ _ h => h) (Or.inl ⟨by rfl, ?_⟩) ?_ ?_
  rotate_left
  · intro w'
    go_simp
    with_reducible rfl
  rotate_left
  · simp only [Act.put, List.setIfInBounds_toArray, List.set_cons_zero, List.set_cons_succ, i64_w, i32_w]
    rfl
  refine pure_ (i := 11) (N := some 51) (v := ?_) (a' := ?_) #[true, true, true, true, true, true, true, true, true, false, false, true, false, false, false, false, false] rfl rfl (by kernel_rfl) (fun _ _ _ h => h) (Or.inl ⟨by rfl, ?_⟩) ?_ ?_
  rotate_left
  · intro w'
    go_simp
    with_reducible rfl
  rotate_left
  · simp only [Act.put, List.setIfInBounds_toArray, List.set_cons_zero, List.set_cons_succ, i64_w, i32_w]
    rfl
  refine one_ (i := 9) (N := some 49) #[true, true, true, true, true, true, true, true, true, true, false, true, false, false, false, false, false] rfl rfl (by kernel_rfl) (by decide) (fun K hK => ?_)
  refine goes_ Try.func15 (by kernel_rfl) rfl #[.int .u64 x] (by rfl) rfl rfl (by simp only [List.map_toArray, List.map_cons, List.map_nil]; rfl) ?_
  refine (put64 x x0 x1 _).mono ?_
  rintro e wc ⟨A9, rfl, ho, hb⟩
  refine ⟨_, rfl, ?_⟩
  rw [HQ.out] at ho
  rw [show (.slice A9 8 8 : Value) = .slice A9 Q.length 8 by rw [← HQ.out]; rfl]
  obtain ⟨c9, hc9⟩ : ∃ k, k = 8 := ⟨_, rfl⟩
  rw [← hc9]
  clear hc9
  have HC9 := Aside0.mk ho
  replace HBR := Aside0.mk (below_step HBR.out hb)
  clear ho hb
  refine hK.out _ _ trivial (fun hHeld => ?_)
  clear hK K
  refine norm_ (a' := ?_) ?_ ?_
  rotate_left
  · show Act.put _ (some 49) _ = _
    simp only [Act.put, List.setIfInBounds_toArray, List.set_cons_zero, List.set_cons_succ, i64_w, i32_w]
    rfl
  refine join_ (σ := Value) 3 #[true, true, true, true, true, true, true, true, true, true, true, true, true, true, false, false, false] (fun s => [(50, .string (strOfNums Q)), (52, s), (53, .string (strOfNums Q))]) (fun _ w' => Below w7.heap.size w7 w') ?_ ?_
  rotate_left
  · intro hCont
    refine two_ (i := 10) (j := 12) (Ni := some 50) (Nj := some 52) #[true, true, true, true, true, true, true, true, true, true, true, true, false, false, false, false, false] #[true, true, true, true, true, true, true, true, true, true, false, true, true, false, false, false, false] rfl rfl rfl rfl (by kernel_rfl) (by decide) (by decide) (fun K hK => ?_) (fun K hK => ?_)
    · skip
      have s10 := toStr1 (P := Try.prog) c9 Try.underlying24 Try.underlying5 Try.underlying9 HC9.out
      refine value_ (w1 := ?_) (v := ?_) (by rfl) rfl ?_ ?_
      rotate_left 2
      · go_simp
        constructor
        · rfl
        · rfl
      refine hK.out _ _ trivial (fun hHeld => ?_)
      clear hK K
      refine norm_ (a' := ?_) ?_ ?_
      rotate_left
      · show Act.put _ (some 50) _ = _
        simp only [Act.put, List.setIfInBounds_toArray, List.set_cons_zero, List.set_cons_succ, i64_w, i32_w]
        rfl
      refine one_ (i := 12) (N := some 52) #[true, true, true, true, true, true, true, true, true, true, true, true, true, false, false, false, false] rfl rfl (by kernel_rfl) (by decide) (fun K hK => ?_)
      refine goes_ Try.func20 (by kernel_rfl) rfl #[.int .u64 x] (by rfl) rfl rfl (by simp only [List.map_toArray, List.map_cons, List.map_nil]; rfl) ?_
      refine (refPut64 x x0 x1 _).mono ?_
      rintro e wc ⟨v, rfl, ho, hb⟩
      refine ⟨_, rfl, ?_⟩
      rw [HQ.out] at ho
      obtain ⟨A12, c12, rfl, l12, ho⟩ := R_C ho
      have HC12 := Aside0.mk ho
      replace HBR := Aside0.mk (below_step HBR.out hb)
      clear ho hb
      refine hK.out _ _ trivial (fun hHeld => ?_)
      clear hK K
      refine norm_ (a' := ?_) ?_ ?_
      rotate_left
      · show Act.put _ (some 52) _ = _
        simp only [Act.put, List.setIfInBounds_toArray, List.set_cons_zero, List.set_cons_succ, i64_w, i32_w]
        rfl
      refine one_ (i := 13) (N := some 53) #[true, true, true, true, true, true, true, true, true, true, true, true, true, true, false, false, false] rfl rfl (by kernel_rfl) (by decide) (fun K hK => ?_)
      have s13 := toStr1 (P := Try.prog) c12 Try.underlying24 Try.underlying5 Try.underlying9 HC12.out
      refine value_ (w1 := ?_) (v := ?_) (by rfl) rfl ?_ ?_
      rotate_left 2
      · go_simp
        constructor
        · rfl
        · rfl
      refine hK.out _ _ trivial (fun hHeld => ?_)
      clear hK K
      refine norm_ (a' := ?_) ?_ ?_
      rotate_left
      · show Act.put _ (some 53) _ = _
        simp only [Act.put, List.setIfInBounds_toArray, List.set_cons_zero, List.set_cons_succ, i64_w, i32_w]
        rfl
      exact norm_ (by simp only [putAll, Act.put, List.setIfInBounds_toArray, List.set_cons_zero, List.set_cons_succ]) (hCont (.slice A12 Q.length c12) _ HBR.out)
    · skip
      refine goes_ Try.func20 (by kernel_rfl) rfl #[.int .u64 x] (by rfl) rfl rfl (by simp only [List.map_toArray, List.map_cons, List.map_nil]; rfl) ?_
      refine (refPut64 x x0 x1 _).mono ?_
      rintro e wc ⟨v, rfl, ho, hb⟩
      refine ⟨_, rfl, ?_⟩
      rw [HQ.out] at ho
      obtain ⟨A12, c12, rfl, l12, ho⟩ := R_C ho
      have HC12 := Aside0.mk ho
      replace HBR := Aside0.mk (below_step HBR.out hb)
      replace HC9 := Aside0.mk (Kd.C_below HC9.out hb)
      clear ho hb
      refine hK.out _ _ trivial (fun hHeld => ?_)
      clear hK K
      refine norm_ (a' := ?_) ?_ ?_
      rotate_left
      · show Act.put _ (some 52) _ = _
        simp only [Act.put, List.setIfInBounds_toArray, List.set_cons_zero, List.set_cons_succ, i64_w, i32_w]
        rfl
      refine two_ (i := 10) (j := 13) (Ni := some 50) (Nj := some 53) #[true, true, true, true, true, true, true, true, true, true, true, true, true, false, false, false, false] #[true, true, true, true, true, true, true, true, true, true, false, true, true, true, false, false, false] rfl rfl rfl rfl (by kernel_rfl) (by decide) (by decide) (fun K hK => ?_) (fun K hK => ?_)
      · skip
        have s10 := toStr1 (P := Try.prog) c9 Try.underlying24 Try.underlying5 Try.underlying9 HC9.out
        refine value_ (w1 := ?_) (v := ?_) (by rfl) rfl ?_ ?_
        rotate_left 2
        · go_simp
          constructor
          · rfl
          · rfl
        refine hK.out _ _ trivial (fun hHeld => ?_)
        clear hK K
        refine norm_ (a' := ?_) ?_ ?_
        rotate_left
        · show Act.put _ (some 50) _ = _
          simp only [Act.put, List.setIfInBounds_toArray, List.set_cons_zero, List.set_cons_succ, i64_w, i32_w]
          rfl
        refine one_ (i := 13) (N := some 53) #[true, true, true, true, true, true, true, true, true, true, true, true, true, true, false, false, false] rfl rfl (by kernel_rfl) (by decide) (fun K hK => ?_)
        have s13 := toStr1 (P := Try.prog) c12 Try.underlying24 Try.underlying5 Try.underlying9 HC12.out
        refine value_ (w1 := ?_) (v := ?_) (by rfl) rfl ?_ ?_
        rotate_left 2
        · go_simp
          constructor
          · rfl
          · rfl
        refine hK.out _ _ trivial (fun hHeld => ?_)
        clear hK K
        refine norm_ (a' := ?_) ?_ ?_
        rotate_left
        · show Act.put _ (some 53) _ = _
          simp only [Act.put, List.setIfInBounds_toArray, List.set_cons_zero, List.set_cons_succ, i64_w, i32_w]
          rfl
        exact norm_ (by simp only [putAll, Act.put, List.setIfInBounds_toArray, List.set_cons_zero, List.set_cons_succ]) (hCont (.slice A12 Q.length c12) _ HBR.out)
      · skip
        have s13 := toStr1 (P := Try.prog) c12 Try.underlying24 Try.underlying5 Try.underlying9 HC12.out
        refine value_ (w1 := ?_) (v := ?_) (by rfl) rfl ?_ ?_
        rotate_left 2
        · go_simp
          constructor
          · rfl
          · rfl
        refine hK.out _ _ trivial (fun hHeld => ?_)
        clear hK K
        refine norm_ (a' := ?_) ?_ ?_
        rotate_left
        · show Act.put _ (some 53) _ = _
          simp only [Act.put, List.setIfInBounds_toArray, List.set_cons_zero, List.set_cons_succ, i64_w, i32_w]
          rfl
        refine one_ (i := 10) (N := some 50) #[true, true, true, true, true, true, true, true, true, true, true, true, true, true, false, false, false] rfl rfl (by kernel_rfl) (by decide) (fun K hK => ?_)
        have s10 := toStr1 (P := Try.prog) c9 Try.underlying24 Try.underlying5 Try.underlying9 HC9.out
        refine value_ (w1 := ?_) (v := ?_) (by rfl) rfl ?_ ?_
        rotate_left 2
        · go_simp
          constructor
          · rfl
          · rfl
        refine hK.out _ _ trivial (fun hHeld => ?_)
        clear hK K
        refine norm_ (a' := ?_) ?_ ?_
        rotate_left
        · show Act.put _ (some 50) _ = _
          simp only [Act.put, List.setIfInBounds_toArray, List.set_cons_zero, List.set_cons_succ, i64_w, i32_w]
          rfl
        exact norm_ (by simp only [putAll, Act.put, List.setIfInBounds_toArray, List.set_cons_zero, List.set_cons_succ]) (hCont (.slice A12 Q.length c12) _ HBR.out)
  rintro v12 w29 hb8
  have hHeld : True := trivial
  replace HBR := Aside0.mk hb8
  clear hb8
  refine norm_ (a' := ?_) ?_ ?_
  rotate_left
  · simp only [putAll, Act.put, List.setIfInBounds_toArray, List.set_cons_zero, List.set_cons_succ]
    rfl
  refine pure_ (i := 14) (N := some 54) (v := ?_) (a' := ?_) #[true, true, true, true, true, true, true, true, true, true, true, true, true, true, true, false, false] rfl rfl (by kernel_rfl) (fun _ _ _ h => h) (Or.inl ⟨by rfl, ?_⟩) ?_ ?_
  rotate_left
  · intro w'
    go_simp
    with_reducible rfl
  rotate_left
  · simp only [Act.put, List.setIfInBounds_toArray, List.set_cons_zero, List.set_cons_succ, i64_w, i32_w]
    rfl
  refine pure_ (i := 15) (N := some 55) (v := ?_) (a' := ?_) #[true, true, true, true, true, true, true, true, true, true, true, true, true, true, true, true, false] rfl rfl (by kernel_rfl) (fun _ _ _ h => h) (Or.inl ⟨by rfl, ?_⟩) ?_ ?_
  rotate_left
  · intro w'
    go_simp
    with_reducible rfl
  rotate_left
  · simp only [Act.put, List.setIfInBounds_toArray, List.set_cons_zero, List.set_cons_succ, i64_w, i32_w]
    rfl
  refine pure_ (i := 16) (N := some 16) (v := ?_) (a' := ?_) #[true, true, true, true, true, true, true, true, true, true, true, true, true, true, true, true, true] rfl rfl (by kernel_rfl) (fun _ _ _ h => h) (Or.inl ⟨by rfl, ?_⟩) ?_ ?_
  rotate_left
  · intro w'
    go_simp
    with_reducible rfl
  rotate_left
  · simp only [Act.put, List.setIfInBounds_toArray, List.set_cons_zero, List.set_cons_succ, i64_w, i32_w]
    rfl
  refine done_ (by kernel_rfl) ?_
  replace HB := Aside0.mk (below_step HB.out HBR.out)
  go_wp2_with (first
    | (go_at_call 11; refine (zig_any n n0 n1 _).mono ?_; rintro e wz ⟨rfl, ⟨nd, rfl⟩⟩; rw [HZ.out])
    | (go_at_call 21; refine (refZig n n0 n1 _).mono ?_; rintro e wz ⟨rfl, ⟨nd, rfl⟩⟩; rw [HZ.out])
    | (go_at_call 12; refine (zag_any x x0 x1 _).mono ?_; rintro e wz ⟨rfl, ⟨nd, rfl⟩⟩; rw [HY.out])
    | (go_at_call 22; refine (refZag x x0 x1 _).mono ?_; rintro e wz ⟨rfl, ⟨nd, rfl⟩⟩; rw [HY.out]))
  go_ret
  exact ⟨rfl, by repeat (first | exact HB.out | apply pw_below_drewN)⟩

theorem walk (x n : Int) (A : Option Addr) (c : Nat) (l : List Int) (w : World) (hx : (Lit.int .u64 x).wf = true) (hn : (Lit.int .i64 n).wf = true) (hr : Kd.C (Kd.int .u8) w A l.length l) (hc : l.length ≤ c) (hw : ∀ n ∈ l, (Lit.int .u8 n).wf = true) (hy : l.length * 1 ≤ 140737488351232) :
    Calls Try.prog 8 #[.int .u64 x, .int .i64 n, .slice A l.length c] w fun e w' => e = .returned (.bool true) ∧ Below w.heap.size w w' :=
  core x n A c l (l.take 40) w (wf_u64 hx).1 (wf_u64 hx).2 (wf_i64 hn).1 (wf_i64 hn).2 ⟨C_take_any 40 hr⟩ (by rw [List.length_take]; omega) (by rw [List.length_take]; omega)
    ⟨fun y hy => by have := wf_u8 (hw y (List.mem_of_mem_take hy)); omega⟩ (fun W => shortC A c l W hc (by omega))

end Go.Proofs.Ytjemdpbbdkfamaa.WNumAll
