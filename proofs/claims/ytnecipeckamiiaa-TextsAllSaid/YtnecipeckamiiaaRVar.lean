/-
  The contracts of the reference's PutVar and Var.
-/
import Derived.Test.YtnecipeckamiiaaQTextsAllx1
import Derived.Test.YtnecipeckamiiaaRefP
import Derived.Test.YtnecipeckamiiaaHold
namespace Go.Proofs.Ytnecipeckamiiaa.RVar
open Go.RowKit Go.Proofs.Ytnecipeckamiiaa.QTextsAll Go.Proofs.YtnecipeckamiiaaW.PrintWords Go.Proofs.YtnecipeckamiiaaW.PrintLast Go.Proofs.YtnecipeckamiiaaW.PrintMore Go.Proofs.Ytnecipeckamiiaa.Num Go.Proofs.Ytnecipeckamiiaa.Bits Go.Proofs.Ytnecipeckamiiaa.VarM Go.Proofs.Ytnecipeckamiiaa.RefP Go.Proofs.Ytnecipeckamiiaa.Hold
set_option linter.unusedVariables false
set_option linter.unusedSimpArgs false
attribute [local go_sem] max2_int min2_int max_two min_two max_three min_three max_four min_four

theorem refPut (x : Int) (h0 : 0 ≤ x) (h1 : x ≤ 18446744073709551615) (w : World) :
    Calls Try.prog 29 #[.int .u64 x] w fun e w' => ∃ v, e = .returned v ∧ Kd.R (Kd.int .u8) 5 w' w.heap.size (fun _ => True) v (pv x.toNat) ∧ Below w.heap.size w w' := by
  obtain ⟨n, rfl⟩ := Int.eq_ofNat_of_zero_le h0
  refine thresherref01_PutVar.calls 10 n (pv n) w ?_
  unfold thresherref01_PutVar.f
  rw [refput_loop (l0 := thresherref01_PutVar.l0) (fun _ _ _ => rfl) 9 n 10 [] (by omega) (by omega) (by omega) (by simp)]
  simp

/-! ### Var -/
def low (l : List Int) : Nat → Int
  | 0 => 0
  | i + 1 => low l i + l.getD i 0 % 128 * 128 ^ i
theorem low_append (a b : List Int) (i : Nat) (h : i ≤ a.length) : low (a ++ b) i = low a i := by
  induction i with
  | zero => rfl
  | succ i ih =>
    have e : (a ++ b).getD i 0 = a.getD i 0 := by simp [List.getD, List.getElem?_append_left (show i < a.length by omega)]
    rw [low, low, ih (by omega), e]
theorem low_cons (c : Int) (l : List Int) (i : Nat) : low (c :: l) (i + 1) = c % 128 + 128 * low l i := by
  induction i with
  | zero => simp [low]
  | succ i ih =>
    rw [low, ih, low, List.getD_cons_succ, Int.pow_succ, Int.mul_add]
    generalize l.getD i 0 % 128 = a
    generalize (128 : Int) ^ i = b
    rw [show a * (b * 128) = 128 * (a * b) by rw [← Int.mul_assoc, Int.mul_comm (a * b)]]
    omega
theorem low_pv (y : Nat) : low (pv y) (pv y).length = y := by
  induction y using pv.induct with
  | case1 y h =>
    rw [pv_small h]
    simp [low]
    omega
  | case2 y h ih =>
    rw [pv_big (by omega), List.length_cons, low_cons, ih]
    omega
theorem pv_shape (y : Nat) : (∀ j, j + 1 < (pv y).length → 128 ≤ (pv y).getD j 0) ∧ (pv y).getD ((pv y).length - 1) 0 < 128 := by
  induction y using pv.induct with
  | case1 y h =>
    rw [pv_small h]
    exact ⟨fun j hj => by simp at hj, by simp; omega⟩
  | case2 y h ih =>
    have hp := pv_pos (y / 128)
    rw [pv_big (by omega)]
    refine ⟨fun j hj => ?_, ?_⟩
    · cases j with
      | zero => rw [List.getD_cons_zero]; omega
      | succ j => rw [List.getD_cons_succ]; exact ih.1 j (by simp at hj; omega)
    · rw [List.length_cons, show (pv (y / 128)).length + 1 - 1 = ((pv (y / 128)).length - 1) + 1 by omega, List.getD_cons_succ]
      exact ih.2
theorem prefix_getD {a l : List Int} (h : a <+: l) (j : Nat) (hj : j < a.length) : l.getD j 0 = a.getD j 0 := by
  obtain ⟨r, rfl⟩ := h
  simp [List.getD, List.getElem?_append_left hj]
/-- Where the first byte below 128 stands, the number ends. -/
theorem ends_at {l : List Int} {y i : Nat} (h : pv y <+: l) (hall : ∀ j, j < i → 128 ≤ l.getD j 0) : i < (pv y).length ∧ (l.getD i 0 < 128 → (pv y).length = i + 1) := by
  have hp := pv_pos y
  obtain ⟨s1, s2⟩ := pv_shape y
  have h1 : i < (pv y).length := by
    rcases Nat.lt_or_ge i (pv y).length with h2 | h2
    · exact h2
    · have h3 := hall ((pv y).length - 1) (by omega)
      rw [prefix_getD h _ (by omega)] at h3
      omega
  refine ⟨h1, fun hc => ?_⟩
  rcases Nat.lt_or_ge (i + 1) (pv y).length with h2 | h2
  · have h3 := s1 i h2
    rw [prefix_getD h _ h1] at hc
    omega
  · omega
theorem low_mod (A c s M : Int) : (A % M + c * (s % M) % M) % M = (A + c * s) % M := by
  simp [Int.add_emod, Int.mul_emod]
theorem low_step (l : List Int) (i : Nat) (c : Int) (hc : l.getD i 0 = c) :
    IntKind.u64.wrap (low l i % 18446744073709551616 + IntKind.u64.wrap (c % 128 * (128 ^ i % 18446744073709551616))) = low l (i + 1) % 18446744073709551616 := by
  rw [wrap_u64, wrap_u64, low_mod, low, hc]
theorem scale_step (i : Nat) : IntKind.u64.wrap ((128 : Int) ^ i % 18446744073709551616 * 128) = 128 ^ (i + 1) % 18446744073709551616 := by
  rw [wrap_u64, Int.pow_succ]
  simp [Int.mul_emod]
theorem var_none {l : List Int} (hb : Bytes l) (i : Nat) (hall : ∀ j, j < i → 128 ≤ l.getD j 0) (hi : i = l.length ∨ i = 10) : var l = (0, 0) := by
  rcases var_cases hb with ⟨h, _⟩ | ⟨y, hy, hp, _⟩
  · exact h
  · have h1 := ends_at hp hall
    have h2 := hp.length_le
    have h3 := pv_le10 y hy
    omega
theorem var_at {l : List Int} (hb : Bytes l) (i : Nat) (hi : i < l.length) (hall : ∀ j, j < i → 128 ≤ l.getD j 0) (hc : l.getD i 0 < 128) :
    var l = if pv (low l (i + 1) % 18446744073709551616).toNat = l.take (i + 1) then (low l (i + 1) % 18446744073709551616, ((i + 1 : Nat) : Int)) else (0, 0) := by
  have hX : 0 ≤ low l (i + 1) % 18446744073709551616 ∧ low l (i + 1) % 18446744073709551616 < 18446744073709551616 := by omega
  by_cases h : pv (low l (i + 1) % 18446744073709551616).toNat = l.take (i + 1)
  · rw [if_pos h]
    have hp : pv (low l (i + 1) % 18446744073709551616).toNat <+: l := by rw [h]; exact List.take_prefix _ _
    rw [var_pv (by omega) hp, h, List.length_take]
    refine Prod.ext ?_ ?_ <;> simp only <;> omega
  · rw [if_neg h]
    rcases var_cases hb with ⟨h0, _⟩ | ⟨y, hy, hp, _⟩
    · exact h0
    · exfalso
      have hl := (ends_at hp hall).2 hc
      have ht : l.take (i + 1) = pv y := by rw [← hl]; exact (List.prefix_iff_eq_take.1 hp).symm
      have hlow : low l (i + 1) = y := by
        obtain ⟨r, rfl⟩ := hp
        rw [low_append _ _ _ (by omega), ← hl, low_pv]
      apply h
      rw [hlow, ht]
      congr 1
      omega

theorem info_u8 : (Try.prog.info? 5).map (fun i => (i.zero, i.size, i.bytes)) = some (some (.int .u8 0), 1, 1) := by kernel_rfl
set_option maxHeartbeats 8000000 in
set_option maxRecDepth 100000 in
theorem refVar (A : Option Addr) (c : Nat) (l : List Int) (w : World) (hr : Kd.C (Kd.int .u8) w A l.length l) (hc : l.length ≤ c) (hb : Bytes l) :
    Calls Try.prog 26 #[.slice A l.length c] w fun e w' => e = .returned (.tuple #[.int .u64 (var l).1, .int .i64 (var l).2]) ∧ Below w.heap.size w w' := by
  have hmax := Kd.C_max hr
  have HR := Aside0.mk hr
  have HB := Aside0.mk hb
  clear hr hb
  obtain ⟨V, hV⟩ : ∃ V, var l = V := ⟨_, rfl⟩
  rw [hV]
  have HV := Aside0.mk hV
  clear hV
  go_enter Try.func26, Try.ntmps26
  go_wp2_with (fail)
  go_loop [4, 5, 6] (fun v4 v5 v6 => ∃ i : Nat, v4 = .int .u64 (low l i % 18446744073709551616) ∧ v5 = .int .u64 (128 ^ i % 18446744073709551616) ∧ v6 = .int .i64 i ∧ i ≤ l.length ∧ i ≤ 10 ∧ Aside0 (∀ j, j < i → 128 ≤ l.getD j 0)) (fun _ _ v6 => 10 - (intOf v6).toNat)
  case atStart => exact ⟨0, rfl, rfl, rfl, by omega, by omega, ⟨fun j hj => absurd hj (by omega)⟩⟩
  case round =>
    obtain ⟨i, rfl, rfl, rfl, hil, hi10, hall⟩ := hrel
    by_cases hlt : i < l.length ∧ i < 10
    · obtain ⟨hlt, h10⟩ := hlt
      obtain ⟨ad, hA, hcells⟩ := C_cells HR.out (by omega : 0 < l.length)
      have hcell := hcells i hlt
      clear hcells
      subst hA
      have hx := HB.out (l.getD i 0) (by simp [List.getD, List.getElem?_eq_getElem hlt])
      have hlI : (i : Int) < (l.length : Int) := by omega
      obtain ⟨x, hxe⟩ : ∃ x, l.getD i 0 = x := ⟨_, rfl⟩
      have HX := Aside0.mk hxe
      rw [hxe] at hcell hx
      clear hxe
      obtain ⟨a, ha⟩ : ∃ a, low l i % 18446744073709551616 = a := ⟨_, rfl⟩
      obtain ⟨s, hs⟩ : ∃ s, (128 : Int) ^ i % 18446744073709551616 = s := ⟨_, rfl⟩
      obtain ⟨X, hXe⟩ : ∃ X, low l (i + 1) % 18446744073709551616 = X := ⟨_, rfl⟩
      obtain ⟨S, hSe⟩ : ∃ S, (128 : Int) ^ (i + 1) % 18446744073709551616 = S := ⟨_, rfl⟩
      have e1 := low_step l i x HX.out
      have e2 := scale_step i
      rw [ha, hs, hXe] at e1
      rw [hs, hSe] at e2
      rw [ha, hs]
      have hX0 : 0 ≤ X := by omega
      have hX1 : X ≤ 18446744073709551615 := by omega
      have HXe := Aside0.mk hXe
      have HSe := Aside0.mk hSe
      clear ha hs hXe hSe
      by_cases h128 : x < 128
      · have hv := var_at HB.out i hlt hall.out (by rw [HX.out]; exact h128)
        rw [HV.out, HXe.out] at hv
        have hcut := cutTo (P := Try.prog) 25 5 Try.underlying25 info_u8 (some ad) l.length c ((i : Int) + 1) (by omega) (by omega) hc
        rw [show ((i : Int) + 1).toNat = i + 1 from by omega] at hcut
        have HT : Kd.C (Kd.int .u8) w (some ad) (i + 1) (l.take (i + 1)) := by
          have h := Kd.C_take (m := i + 1) HR.out (by omega)
          have e : (l.take (i + 1)).length = i + 1 := by rw [List.length_take]; omega
          rw [e] at h
          exact h
        have HS : Aside0 (∀ W, Below w.heap.size w W → (convert 25 9 (.slice (some ad) (i + 1) c)).run Try.prog W = .ok (.string (strOfNums (l.take (i + 1)))) W) :=
          ⟨fun W hb => toStr1 (P := Try.prog) c Try.underlying25 Try.underlying5 Try.underlying9 (Kd.C_below HT hb)⟩
        clear HT
        have hs1 := HS.out _ (below_drew (Below.refl _ _))

        obtain ⟨T, hT⟩ : ∃ T, l.take (i + 1) = T := ⟨_, rfl⟩
        obtain ⟨PX, hPX⟩ : ∃ PX, pv X.toNat = PX := ⟨_, rfl⟩
        rw [hT, hPX] at hv
        rw [hT] at HS hs1
        have hTb : Bytes T := by rw [← hT]; exact HB.out.take _
        have hPb : Bytes PX := by rw [← hPX]; exact pv_Bytes _
        have HPX := Aside0.mk hPX
        clear hT hPX
        by_cases hp : PX = T
        · rw [if_pos hp] at hv
          subst hv
          subst hp
          clear hTb hPb
          go_wp2_with (fail)
          have hinc : wrap64 ((i : Int) + 1) = (i : Int) + 1 := wrap64_id (by omega) (by omega)
          refine start_ (n := 9) (S := fun w' => (convert 25 9 (.slice (some ad) (i + 1) c)).run Try.prog w' = .ok (.string (strOfNums PX)) w') (ds := []) #[false, false, false, false, false, false, false, false, false] (by kernel_rfl) rfl rfl (hs1) (fun hHeld => ?_)
          refine pure_ (i := 0) (N := some 34) (v := ?_) (a' := ?_) #[true, false, false, false, false, false, false, false, false] rfl rfl (by kernel_rfl) (fun _ _ _ h => h) (Or.inl ⟨by rfl, ?_⟩) ?_ ?_
          rotate_left
          · intro w'
            go_simp
            with_reducible rfl
          rotate_left
          · simp only [Act.put, List.setIfInBounds_toArray, List.set_cons_zero, List.set_cons_succ, i64_w, i32_w]
            rfl
          refine pure_ (i := 3) (N := some 37) (v := ?_) (a' := ?_) #[true, false, false, true, false, false, false, false, false] rfl rfl (by kernel_rfl) (fun _ _ _ h => h) (Or.inl ⟨by rfl, ?_⟩) ?_ ?_
          rotate_left
          · intro w'
            go_simp
            with_reducible rfl
          rotate_left
          · simp only [Act.put, List.setIfInBounds_toArray, List.set_cons_zero, List.set_cons_succ, i64_w, i32_w]
            rfl
          refine pure_ (i := 4) (N := some 38) (v := ?_) (a' := ?_) #[true, false, false, true, true, false, false, false, false] rfl rfl (by kernel_rfl) (fun _ _ _ h => h) (Or.inl ⟨by rfl, ?_⟩) ?_ ?_
          rotate_left
          · intro w'
            go_simp
            with_reducible rfl
          rotate_left
          · simp only [Act.put, List.setIfInBounds_toArray, List.set_cons_zero, List.set_cons_succ, i64_w, i32_w]
            rfl
          refine pure_ (i := 5) (N := some 39) (v := ?_) (a' := ?_) #[true, false, false, true, true, true, false, false, false] rfl rfl (by kernel_rfl) (fun _ _ _ h => h) (Or.inl ⟨by rfl, ?_⟩) ?_ ?_
          rotate_left
          · intro w'
            go_simp
            with_reducible rfl
          rotate_left
          · simp only [Act.put, List.setIfInBounds_toArray, List.set_cons_zero, List.set_cons_succ, i64_w, i32_w]
            rfl
          refine pure_ (i := 6) (N := some 40) (v := ?_) (a' := ?_) #[true, false, false, true, true, true, true, false, false] rfl rfl (by kernel_rfl) (fun _ _ _ h => h) (Or.inl ⟨by rfl, ?_⟩) ?_ ?_
          rotate_left
          · intro w'
            go_simp
            with_reducible rfl
          rotate_left
          · simp only [Act.put, List.setIfInBounds_toArray, List.set_cons_zero, List.set_cons_succ, i64_w, i32_w]
            rfl
          refine take_ (i := 7) (N := some 41) (v := ?_) (a' := ?_) #[true, false, false, true, true, true, true, true, false] rfl rfl (by kernel_rfl) (fun _ _ _ h => h) (Or.inl ⟨by rfl, ?_⟩) hHeld ?_ ?_
          rotate_left
          · intro w' s0
            go_simp
            with_reducible rfl
          rotate_left
          · simp only [Act.put, List.setIfInBounds_toArray, List.set_cons_zero, List.set_cons_succ, i64_w, i32_w]
            rfl
          refine one_ (i := 1) (N := some 35) #[true, true, false, true, true, true, true, true, false] rfl rfl (by kernel_rfl) (by decide) (fun K hK => ?_)
          refine goes_ Try.func29 (by kernel_rfl) rfl #[.int .u64 X] (by rfl) rfl rfl (by simp only [List.map_toArray, List.map_cons, List.map_nil]; rfl) ?_
          refine (refPut X hX0 hX1 _).mono ?_
          rintro e w8 ⟨v, rfl, ho, hb2⟩
          refine ⟨_, rfl, ?_⟩
          rw [HPX.out] at ho
          obtain ⟨Ab, cb, rfl, lb, ho⟩ := R_C ho
          have s8 := toStr1 (P := Try.prog) cb Try.underlying25 Try.underlying5 Try.underlying9 ho
          have hs1 := HS.out _ (below_step (below_drew (Below.refl _ _)) hb2)
          have HB8 := Aside0.mk (below_step (below_drew (Below.refl _ _)) hb2)
          clear ho hb2
          refine hK.out _ _ (hs1) (fun hHeld => ?_)
          clear hK K
          refine norm_ (a' := ?_) ?_ ?_
          rotate_left
          · show Act.put _ (some 35) _ = _
            simp only [Act.put, List.setIfInBounds_toArray, List.set_cons_zero, List.set_cons_succ, i64_w, i32_w]
            rfl
          refine one_ (i := 2) (N := some 36) #[true, true, true, true, true, true, true, true, false] rfl rfl (by kernel_rfl) (by decide) (fun K hK => ?_)
          refine value_ (w1 := ?_) (v := ?_) (by rfl) rfl ?_ ?_
          rotate_left 2
          · go_simp
            constructor
            · rfl
            · rfl
          refine hK.out _ _ (hs1) (fun hHeld => ?_)
          clear hK K
          refine norm_ (a' := ?_) ?_ ?_
          rotate_left
          · show Act.put _ (some 36) _ = _
            simp only [Act.put, List.setIfInBounds_toArray, List.set_cons_zero, List.set_cons_succ, i64_w, i32_w]
            rfl
          refine pure_ (i := 8) (N := some 42) (v := ?_) (a' := ?_) #[true, true, true, true, true, true, true, true, true] rfl rfl (by kernel_rfl) (fun _ _ _ h => h) (Or.inl ⟨by rfl, ?_⟩) ?_ ?_
          rotate_left
          · intro w'
            go_simp
            with_reducible rfl
          rotate_left
          · simp only [Act.put, List.setIfInBounds_toArray, List.set_cons_zero, List.set_cons_succ, i64_w, i32_w]
            rfl
          refine done_ (by kernel_rfl) ?_
          go_wp2_with (fail)
          go_ret2
          exact ⟨rfl, HB8.out⟩
        · rw [if_neg hp] at hv
          subst hv
          have hne : ((strOfNums PX).toList == (strOfNums T).toList) = false := by
            rw [beq_eq_false_iff_ne]
            exact fun h => hp (str_inj hPb hTb h)
          have hne2 : ((strOfNums PX).toList != (strOfNums T).toList) = true := by
            rw [bne_iff_ne]
            exact fun h => hp (str_inj hPb hTb h)
          clear hTb hPb hp
          go_wp2_with (fail)
          have hinc : wrap64 ((i : Int) + 1) = (i : Int) + 1 := wrap64_id (by omega) (by omega)
          refine start_ (n := 9) (S := fun w' => (convert 25 9 (.slice (some ad) (i + 1) c)).run Try.prog w' = .ok (.string (strOfNums T)) w') (ds := []) #[false, false, false, false, false, false, false, false, false] (by kernel_rfl) rfl rfl (hs1) (fun hHeld => ?_)
          refine pure_ (i := 0) (N := some 34) (v := ?_) (a' := ?_) #[true, false, false, false, false, false, false, false, false] rfl rfl (by kernel_rfl) (fun _ _ _ h => h) (Or.inl ⟨by rfl, ?_⟩) ?_ ?_
          rotate_left
          · intro w'
            go_simp
            with_reducible rfl
          rotate_left
          · simp only [Act.put, List.setIfInBounds_toArray, List.set_cons_zero, List.set_cons_succ, i64_w, i32_w]
            rfl
          refine pure_ (i := 3) (N := some 37) (v := ?_) (a' := ?_) #[true, false, false, true, false, false, false, false, false] rfl rfl (by kernel_rfl) (fun _ _ _ h => h) (Or.inl ⟨by rfl, ?_⟩) ?_ ?_
          rotate_left
          · intro w'
            go_simp
            with_reducible rfl
          rotate_left
          · simp only [Act.put, List.setIfInBounds_toArray, List.set_cons_zero, List.set_cons_succ, i64_w, i32_w]
            rfl
          refine pure_ (i := 4) (N := some 38) (v := ?_) (a' := ?_) #[true, false, false, true, true, false, false, false, false] rfl rfl (by kernel_rfl) (fun _ _ _ h => h) (Or.inl ⟨by rfl, ?_⟩) ?_ ?_
          rotate_left
          · intro w'
            go_simp
            with_reducible rfl
          rotate_left
          · simp only [Act.put, List.setIfInBounds_toArray, List.set_cons_zero, List.set_cons_succ, i64_w, i32_w]
            rfl
          refine pure_ (i := 5) (N := some 39) (v := ?_) (a' := ?_) #[true, false, false, true, true, true, false, false, false] rfl rfl (by kernel_rfl) (fun _ _ _ h => h) (Or.inl ⟨by rfl, ?_⟩) ?_ ?_
          rotate_left
          · intro w'
            go_simp
            with_reducible rfl
          rotate_left
          · simp only [Act.put, List.setIfInBounds_toArray, List.set_cons_zero, List.set_cons_succ, i64_w, i32_w]
            rfl
          refine pure_ (i := 6) (N := some 40) (v := ?_) (a' := ?_) #[true, false, false, true, true, true, true, false, false] rfl rfl (by kernel_rfl) (fun _ _ _ h => h) (Or.inl ⟨by rfl, ?_⟩) ?_ ?_
          rotate_left
          · intro w'
            go_simp
            with_reducible rfl
          rotate_left
          · simp only [Act.put, List.setIfInBounds_toArray, List.set_cons_zero, List.set_cons_succ, i64_w, i32_w]
            rfl
          refine take_ (i := 7) (N := some 41) (v := ?_) (a' := ?_) #[true, false, false, true, true, true, true, true, false] rfl rfl (by kernel_rfl) (fun _ _ _ h => h) (Or.inl ⟨by rfl, ?_⟩) hHeld ?_ ?_
          rotate_left
          · intro w' s0
            go_simp
            with_reducible rfl
          rotate_left
          · simp only [Act.put, List.setIfInBounds_toArray, List.set_cons_zero, List.set_cons_succ, i64_w, i32_w]
            rfl
          refine one_ (i := 1) (N := some 35) #[true, true, false, true, true, true, true, true, false] rfl rfl (by kernel_rfl) (by decide) (fun K hK => ?_)
          refine goes_ Try.func29 (by kernel_rfl) rfl #[.int .u64 X] (by rfl) rfl rfl (by simp only [List.map_toArray, List.map_cons, List.map_nil]; rfl) ?_
          refine (refPut X hX0 hX1 _).mono ?_
          rintro e w8 ⟨v, rfl, ho, hb2⟩
          refine ⟨_, rfl, ?_⟩
          rw [HPX.out] at ho
          obtain ⟨Ab, cb, rfl, lb, ho⟩ := R_C ho
          have s8 := toStr1 (P := Try.prog) cb Try.underlying25 Try.underlying5 Try.underlying9 ho
          have hs1 := HS.out _ (below_step (below_drew (Below.refl _ _)) hb2)
          have HB8 := Aside0.mk (below_step (below_drew (Below.refl _ _)) hb2)
          clear ho hb2
          refine hK.out _ _ (hs1) (fun hHeld => ?_)
          clear hK K
          refine norm_ (a' := ?_) ?_ ?_
          rotate_left
          · show Act.put _ (some 35) _ = _
            simp only [Act.put, List.setIfInBounds_toArray, List.set_cons_zero, List.set_cons_succ, i64_w, i32_w]
            rfl
          refine one_ (i := 2) (N := some 36) #[true, true, true, true, true, true, true, true, false] rfl rfl (by kernel_rfl) (by decide) (fun K hK => ?_)
          refine value_ (w1 := ?_) (v := ?_) (by rfl) rfl ?_ ?_
          rotate_left 2
          · go_simp
            constructor
            · rfl
            · rfl
          refine hK.out _ _ (hs1) (fun hHeld => ?_)
          clear hK K
          refine norm_ (a' := ?_) ?_ ?_
          rotate_left
          · show Act.put _ (some 36) _ = _
            simp only [Act.put, List.setIfInBounds_toArray, List.set_cons_zero, List.set_cons_succ, i64_w, i32_w]
            rfl
          refine pure_ (i := 8) (N := some 42) (v := ?_) (a' := ?_) #[true, true, true, true, true, true, true, true, true] rfl rfl (by kernel_rfl) (fun _ _ _ h => h) (Or.inl ⟨by rfl, ?_⟩) ?_ ?_
          rotate_left
          · intro w'
            go_simp
            with_reducible rfl
          rotate_left
          · simp only [Act.put, List.setIfInBounds_toArray, List.set_cons_zero, List.set_cons_succ, i64_w, i32_w]
            rfl
          refine done_ (by kernel_rfl) ?_
          go_wp2_with (fail)
          go_ret2
          exact ⟨rfl, HB8.out⟩
      · go_wp2_with (fail)
        go_round
        case rel => exact ⟨i + 1, by rw [HXe.out], by rw [HSe.out], by go_num, by omega, by omega, ⟨fun j hj => by
          rcases Nat.lt_or_ge j i with h | h
          · exact hall.out j h
          · rw [show j = i by omega, HX.out]; omega⟩⟩
        case measure => simp [intOf]; omega
    · have hi : i = l.length ∨ i = 10 := by omega
      have h0 := var_none HB.out i hall.out hi
      rw [HV.out] at h0
      subst h0
      by_cases h1 : i < l.length
      · have h30 : ¬ (i : Int) < 10 := by omega
        go_wp2_with (fail)
        go_ret2
        exact ⟨rfl, Below.refl _ _⟩
      · have h30 : ¬ (i : Int) < (l.length : Int) := by omega
        go_wp2_with (fail)
        go_ret2
        exact ⟨rfl, Below.refl _ _⟩


end Go.Proofs.Ytnecipeckamiiaa.RVar
