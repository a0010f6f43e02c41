/- The walk of the law NumJoins. -/
import Derived.Test.YtjemdpbbdkfamaaCNum
import Derived.Test.YtjemdpbbdkfamaaCVar
import Derived.Test.YtjemdpbbdkfamaaHold
namespace Go.Proofs.Ytjemdpbbdkfamaa.WNumJoins
open Go.RowKit Go.Proofs.YtjemdpbbdkfamaaW.PrintWords Go.Proofs.YtjemdpbbdkfamaaW.PrintLast Go.Proofs.YtjemdpbbdkfamaaW.PrintMore Go.Proofs.Ytjemdpbbdkfamaa.Num Go.Proofs.Ytjemdpbbdkfamaa.Bits Go.Proofs.Ytjemdpbbdkfamaa.VarM Go.Proofs.Ytjemdpbbdkfamaa.CNum Go.Proofs.Ytjemdpbbdkfamaa.CVar Go.Proofs.Ytjemdpbbdkfamaa.Hold
set_option linter.unusedVariables false
set_option linter.unusedSimpArgs false
attribute [local go_sem] max2_int min2_int max_two min_two max_three min_three max_four min_four

theorem info_u8 : (Try.prog.info? 5).map (fun i => (i.zero, i.size, i.bytes)) = some (some (.int .u8 0), 1, 1) := by kernel_rfl
def joined (l : List Int) : List Int := l.flatMap fun x => pv x.toNat
theorem joined_length (l : List Int) (h : ∀ x ∈ l, 0 ≤ x ∧ x ≤ 18446744073709551615) : (joined l).length ≤ 10 * l.length := by
  induction l with
  | nil => simp [joined]
  | cons x xs ih =>
    have h1 := h x (by simp)
    have h2 := pv_le10 x.toNat (by omega)
    have h3 := ih (fun y hy => h y (by simp [hy]))
    have e : joined (x :: xs) = pv x.toNat ++ joined xs := rfl
    rw [e, List.length_append, List.length_cons]
    omega
theorem joined_snoc (l : List Int) (i : Nat) (h : i < l.length) : joined (l.take (i + 1)) = joined (l.take i) ++ pv (l.getD i 0).toNat := by
  rw [List.take_succ_eq_append_getElem h]
  unfold joined
  rw [List.flatMap_append]
  simp [List.getD, List.getElem?_eq_getElem h]
theorem joined_drop (l : List Int) (i : Nat) (h : i < l.length) : joined (l.drop i) = pv (l.getD i 0).toNat ++ joined (l.drop (i + 1)) := by
  rw [List.drop_eq_getElem_cons h]
  unfold joined
  rw [List.flatMap_cons]
  simp [List.getD, List.getElem?_eq_getElem h]
theorem joined_Bytes (l : List Int) : Bytes (joined l) := by
  intro c hc
  unfold joined at hc
  obtain ⟨x, _, hx⟩ := List.mem_flatMap.1 hc
  exact pv_Bytes _ c hx
/-- Var at a slice that begins with a number that was put. -/
theorem varAt (x : Nat) (hx : x < 18446744073709551616) (r : List Int) (A : Option Addr) (c : Nat) (R : List Int) (w : World) (hR : R = pv x ++ r) (hr : Kd.C (Kd.int .u8) w A R.length R) (hc : R.length ≤ c) (hb : Bytes R) (hn : R.length < 1000000000000) :
    Calls Try.prog 13 #[.slice A R.length c] w fun e w' => e = .returned (.tuple #[.int .u64 x, .int .i64 (pv x).length]) ∧ Drawn0 w w' := by
  have h := varC A c R w hr hc hb hn
  rw [var_pv hx (by rw [hR]; exact ⟨r, rfl⟩)] at h
  exact h

set_option maxHeartbeats 8000000 in
set_option maxRecDepth 100000 in
theorem walk (A : Option Addr) (c : Nat) (l : List Int) (w : World) (hr : Kd.C (Kd.int .u64) w A l.length l) (hc : l.length ≤ c) (hw : ∀ n ∈ l, (Lit.int .u64 n).wf = true) (hy : l.length * 8 ≤ 140737488351232) :
    Calls Try.prog 5 #[.slice A l.length c] w fun e w' => e = .returned (.bool true) ∧ Below w.heap.size w w' := by
  have HR := Aside0.mk hr
  have HB := Aside0.mk (Below.refl w.heap.size w)
  have HW : Aside0 (∀ x ∈ l, 0 ≤ x ∧ x ≤ 18446744073709551615) := ⟨fun x hx => wf_u64 (hw x hx)⟩
  have hn : l.length ≤ 17592186043904 := by omega
  clear hr hc hw hy
  go_enter Try.func5, Try.ntmps5
  go_wp2_with (fail)
  (with_reducible refine (shown _).mono ?_); rintro e w1 ⟨rfl, hb⟩
  replace HB := Aside0.mk (below_step HB.out hb); replace HR := Aside0.mk (Kd.C_below HR.out hb); clear hb
  go_wp2_with (fail)
  go_loopw [4, 5] (fun v4 v5 wr => ∃ i : Nat, v5 = .int .i64 i ∧ i ≤ l.length ∧ i ≤ 30 ∧ Aside0 (Kd.R (Kd.int .u8) 5 wr w1.heap.size (fun _ => True) v4 (joined (l.take i))) ∧ Aside0 (Below w1.heap.size w1 wr)) (fun _ v5 _ => 30 - (intOf v5).toNat)
  case atStart => exact ⟨0, rfl, by omega, by omega, ⟨R_empty 5 w1⟩, ⟨below_alloc (Below.refl _ _) _⟩⟩
  case round =>
    obtain ⟨i, rfl, hil, hi30, HO, HB1⟩ := hrel
    by_cases hlt : i < l.length ∧ i < 30
    · obtain ⟨hlt, h30⟩ := hlt
      obtain ⟨ad, hA, hcells⟩ := C_cells (Kd.C_below HR.out HB1.out) (by omega : 0 < l.length)
      have hcell := hcells i hlt
      clear hcells
      subst hA
      have hx := HW.out (l.getD i 0) (by simp [List.getD, List.getElem?_eq_getElem hlt])
      have hlI : (i : Int) < (l.length : Int) := by omega
      obtain ⟨x, hxe⟩ : ∃ x, l.getD i 0 = x := ⟨_, rfl⟩
      have HX := Aside0.mk hxe
      rw [hxe] at hcell hx
      clear hxe
      go_wp2_with (first
        | (go_at_call 10; (with_reducible refine (putVar _ hx.1 hx.2 _).mono ?_); rintro e w2 ⟨v, rfl, ho, hb⟩; obtain ⟨Ap, cp, rfl, lp, ho⟩ := R_C ho; have HO2 := Aside0.mk (Kd.R_below HO.out hb); have HB2 := Aside0.mk (below_step HB1.out hb); have HP := Aside0.mk ho; clear ho hb)
        | (at_builtin; refine appendRow (k := .u8) (w0 := w1) rfl (.tmp 21) (.tmp 26) 24 5 1 rfl Try.underlying24 info_u8 (by decide) _ _ _ _ _ _ rfl rfl HO2.out HP.out HB2.out ?_ ?_; (have h1 := joined_length (l.take i) (fun x hx => HW.out x (List.mem_of_mem_take hx)); have h2 := pv_le10 x.toNat (by omega); rw [List.length_take] at h1; omega); intro v3 w3 ho3 hb3; have HO3 := Aside0.mk ho3; have HB3 := Aside0.mk hb3; clear ho3 hb3))
      go_roundw
      case rel => exact ⟨i + 1, by go_num, by omega, by omega, ⟨by rw [joined_snoc l i hlt, HX.out]; exact HO3.out⟩, HB3⟩
      case measure => simp [intOf]; omega
    · have hi : i ≤ l.length ∧ i ≤ 30 ∧ (i < l.length → i = 30) := by omega
      clear hlt
      obtain ⟨Aa, ca, rfl, la, hoC⟩ := R_C HO.out
      have hlen := joined_length (l.take i) (fun x hx => HW.out x (List.mem_of_mem_take hx))
      rw [List.length_take] at hlen
      have HL : Aside0 ((joined (l.take i)).length ≤ 300) := ⟨by omega⟩
      have HC := Aside0.mk hoC
      replace HR := Aside0.mk (Kd.C_below HR.out HB1.out)
      replace HB := Aside0.mk (below_step HB.out HB1.out)
      clear hoC HO hlen
      have hstart : Aside0 (joined (l.take i) = joined ((l.take i).drop 0)) := ⟨by simp⟩
      have hlm : (l.take i).length = i := by rw [List.length_take]; omega
      obtain ⟨m, hm⟩ : ∃ m, l.take i = m := ⟨_, rfl⟩
      rw [hm] at HC la HL hstart hlm
      have HM := Aside0.mk hm
      rw [hm]
      clear hm
      obtain ⟨R0, hR0⟩ : ∃ R0, joined m = R0 := ⟨_, rfl⟩
      rw [hR0] at HC la HL hstart ⊢
      have HR0 := Aside0.mk hR0
      clear hR0
      have HLM := Aside0.mk hlm
      clear hlm HB1
      obtain ⟨wo, rfl⟩ : ∃ wo : World, wo = wr := ⟨_, rfl⟩
      by_cases h1 : i < l.length
      · have h30 : ¬ (i : Int) < 30 := by omega
        go_wp2_with (fail)
        go_loopw [4, 6] (fun v4 v6 wr => ∃ (j : Nat) (A' : Option Addr) (c' : Nat) (R : List Int), v6 = .int .i64 j ∧ v4 = .slice A' R.length c' ∧ j ≤ i ∧ R.length ≤ c' ∧ Aside0 (R.length ≤ 300) ∧ Aside0 (R = joined (m.drop j)) ∧ Aside0 (Kd.C (Kd.int .u8) wr A' R.length R) ∧ Aside0 (Below wo.heap.size wo wr)) (fun _ v6 _ => 30 - (intOf v6).toNat)
        case atStart => exact ⟨0, Aa, ca, R0, rfl, rfl, by omega, la, HL, hstart, HC, ⟨Below.refl _ _⟩⟩
        case round =>
          obtain ⟨j, A', c', R, rfl, rfl, hji, hRc, HRL, HRe, HRC, HBo⟩ := hrel
          by_cases hj : j < i
          · have hd := joined_drop m j (by rw [HLM.out]; exact hj)
            have hgm : m.getD j 0 = l.getD j 0 := by
              rw [← HM.out]
              simp [List.getD, List.getElem?_take, hj]
            obtain ⟨ad, hA, hcells⟩ := C_cells (Kd.C_below HR.out HBo.out) (by omega : 0 < l.length)
            have hcell := hcells j (by omega)
            clear hcells
            subst hA
            have hx := HW.out (l.getD j 0) (by simp [List.getD, List.getElem?_eq_getElem (show j < l.length by omega)])
            rw [hgm] at hd
            clear hgm
            obtain ⟨x, hxe⟩ := Int.eq_ofNat_of_zero_le hx.1
            rw [hxe] at hcell hx hd
            clear hxe
            rw [Int.toNat_natCast] at hd
            obtain ⟨n, hn'⟩ : ∃ n, (pv x).length = n := ⟨_, rfl⟩
            have hRx : Aside0 (R = pv x ++ joined (m.drop (j + 1))) := ⟨by rw [HRe.out, hd]⟩
            have n1 : 1 ≤ n := by rw [← hn']; exact pv_pos x
            have n2 : n ≤ R.length := by rw [hRx.out, List.length_append, hn']; omega
            have HN := Aside0.mk hn'
            clear hn' hd
            obtain ⟨A2, hcut, h2, hc2⟩ := cutFrom (P := Try.prog) 24 5 Try.underlying24 info_u8 .u8 A' c' R (n : Int) (by omega) (by omega) hRc
            rw [Int.toNat_natCast] at hcut h2 hc2
            have H2 := Aside0.mk h2
            clear h2
            have hdr : Aside0 (R.drop n = joined (m.drop (j + 1))) := ⟨by rw [hRx.out]; exact List.drop_left' HN.out⟩
            have hdl : Aside0 ((R.drop n).length ≤ 300) := ⟨by have := HRL.out; rw [List.length_drop]; omega⟩
            obtain ⟨D, hD⟩ : ∃ D, R.drop n = D := ⟨_, rfl⟩
            rw [hD] at hcut H2 hc2 hdr hdl
            clear hD
            have hjl : (j : Int) < (l.length : Int) := by omega
            have hRb : Aside0 (Bytes R) := ⟨by rw [HRe.out]; exact joined_Bytes _⟩
            go_wp2_with (go_at_call 13; refine (varAt x (by omega) _ A' c' R _ hRx.out HRC.out hRc hRb.out (by have := HRL.out; omega)).mono ?_; rintro e w2 ⟨rfl, ⟨nd, rfl⟩⟩; rw [HN.out])
            go_roundw
            case rel => exact ⟨j + 1, A2, c' - n, D, by go_num, rfl, by omega, hc2, hdl, hdr, ⟨Kd.C_drewN (H2.out _ HRC.out) _⟩, ⟨pw_below_drewN HBo.out _⟩⟩
            case measure => simp [intOf]; omega
          · obtain rfl : j = i := by omega
            have hR : R = [] := by rw [HRe.out, List.drop_of_length_le (by rw [HLM.out]; exact Nat.le_refl _)]; rfl
            subst hR
            go_wp2_with (fail)
            go_ret
            exact ⟨rfl, below_step HB.out HBo.out⟩
      · have h30 : ¬ (i : Int) < (l.length : Int) := by omega
        go_wp2_with (fail)
        go_loopw [4, 6] (fun v4 v6 wr => ∃ (j : Nat) (A' : Option Addr) (c' : Nat) (R : List Int), v6 = .int .i64 j ∧ v4 = .slice A' R.length c' ∧ j ≤ i ∧ R.length ≤ c' ∧ Aside0 (R.length ≤ 300) ∧ Aside0 (R = joined (m.drop j)) ∧ Aside0 (Kd.C (Kd.int .u8) wr A' R.length R) ∧ Aside0 (Below wo.heap.size wo wr)) (fun _ v6 _ => 30 - (intOf v6).toNat)
        case atStart => exact ⟨0, Aa, ca, R0, rfl, rfl, by omega, la, HL, hstart, HC, ⟨Below.refl _ _⟩⟩
        case round =>
          obtain ⟨j, A', c', R, rfl, rfl, hji, hRc, HRL, HRe, HRC, HBo⟩ := hrel
          by_cases hj : j < i
          · have hd := joined_drop m j (by rw [HLM.out]; exact hj)
            have hgm : m.getD j 0 = l.getD j 0 := by
              rw [← HM.out]
              simp [List.getD, List.getElem?_take, hj]
            obtain ⟨ad, hA, hcells⟩ := C_cells (Kd.C_below HR.out HBo.out) (by omega : 0 < l.length)
            have hcell := hcells j (by omega)
            clear hcells
            subst hA
            have hx := HW.out (l.getD j 0) (by simp [List.getD, List.getElem?_eq_getElem (show j < l.length by omega)])
            rw [hgm] at hd
            clear hgm
            obtain ⟨x, hxe⟩ := Int.eq_ofNat_of_zero_le hx.1
            rw [hxe] at hcell hx hd
            clear hxe
            rw [Int.toNat_natCast] at hd
            obtain ⟨n, hn'⟩ : ∃ n, (pv x).length = n := ⟨_, rfl⟩
            have hRx : Aside0 (R = pv x ++ joined (m.drop (j + 1))) := ⟨by rw [HRe.out, hd]⟩
            have n1 : 1 ≤ n := by rw [← hn']; exact pv_pos x
            have n2 : n ≤ R.length := by rw [hRx.out, List.length_append, hn']; omega
            have HN := Aside0.mk hn'
            clear hn' hd
            obtain ⟨A2, hcut, h2, hc2⟩ := cutFrom (P := Try.prog) 24 5 Try.underlying24 info_u8 .u8 A' c' R (n : Int) (by omega) (by omega) hRc
            rw [Int.toNat_natCast] at hcut h2 hc2
            have H2 := Aside0.mk h2
            clear h2
            have hdr : Aside0 (R.drop n = joined (m.drop (j + 1))) := ⟨by rw [hRx.out]; exact List.drop_left' HN.out⟩
            have hdl : Aside0 ((R.drop n).length ≤ 300) := ⟨by have := HRL.out; rw [List.length_drop]; omega⟩
            obtain ⟨D, hD⟩ : ∃ D, R.drop n = D := ⟨_, rfl⟩
            rw [hD] at hcut H2 hc2 hdr hdl
            clear hD
            have hjl : (j : Int) < (l.length : Int) := by omega
            have hRb : Aside0 (Bytes R) := ⟨by rw [HRe.out]; exact joined_Bytes _⟩
            go_wp2_with (go_at_call 13; refine (varAt x (by omega) _ A' c' R _ hRx.out HRC.out hRc hRb.out (by have := HRL.out; omega)).mono ?_; rintro e w2 ⟨rfl, ⟨nd, rfl⟩⟩; rw [HN.out])
            go_roundw
            case rel => exact ⟨j + 1, A2, c' - n, D, by go_num, rfl, by omega, hc2, hdl, hdr, ⟨Kd.C_drewN (H2.out _ HRC.out) _⟩, ⟨pw_below_drewN HBo.out _⟩⟩
            case measure => simp [intOf]; omega
          · obtain rfl : j = i := by omega
            have hR : R = [] := by rw [HRe.out, List.drop_of_length_le (by rw [HLM.out]; exact Nat.le_refl _)]; rfl
            subst hR
            go_wp2_with (fail)
            go_ret
            exact ⟨rfl, below_step HB.out HBo.out⟩

end Go.Proofs.Ytjemdpbbdkfamaa.WNumJoins
