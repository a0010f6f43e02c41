/- The walk of the law NumBack. -/
import Derived.Test.YtjemdpbbdkfamaaWNumWhole
import Derived.Test.YtjemdpbbdkfamaaCPut64
namespace Go.Proofs.Ytjemdpbbdkfamaa.WNumBack
open Go.RowKit Go.Proofs.YtjemdpbbdkfamaaW.PrintWords Go.Proofs.YtjemdpbbdkfamaaW.PrintLast Go.Proofs.YtjemdpbbdkfamaaW.PrintMore Go.Proofs.Ytjemdpbbdkfamaa.Num Go.Proofs.Ytjemdpbbdkfamaa.Bits Go.Proofs.Ytjemdpbbdkfamaa.VarM Go.Proofs.Ytjemdpbbdkfamaa.CNum Go.Proofs.Ytjemdpbbdkfamaa.CVar Go.Proofs.Ytjemdpbbdkfamaa.Hold Go.Proofs.Ytjemdpbbdkfamaa.CPut64
open Go.Proofs.Ytjemdpbbdkfamaa.WNumWhole (shortC)
set_option linter.unusedVariables false
set_option linter.unusedSimpArgs false
attribute [local go_sem] max2_int min2_int max_two min_two max_three min_three max_four min_four

theorem var_part (x : Nat) (hx : x < 18446744073709551616) (k : Nat) (hk : k < (pv x).length) : var ((pv x).take k) = (0, 0) := by
  rcases var_cases ((pv_Bytes x).take k) with ⟨h, _⟩ | ⟨y, hy, hp, _⟩
  · exact h
  · have h1 := var_pv hy (hp.trans (List.take_prefix k (pv x)))
    have h2 := var_pv hx (List.prefix_refl (pv x))
    have h3 := hp.length_le
    rw [h1] at h2
    have h4 := congrArg Prod.snd h2
    simp only at h4
    rw [List.length_take] at h3
    omega
theorem v8_cl (x : Int) (s : List Int) (h0 : 0 ≤ x) (h1 : x ≤ 18446744073709551615) : g64 (cl x ++ s) = (x, true) := by
  have hl : ¬ (cl x ++ s).length < 8 := by rw [List.length_append, cl_length]; omega
  unfold g64
  rw [if_neg hl]
  have e : v8 (cl x ++ s) 8 = x % 256 + x / 256 % 256 * 256 + x / 65536 % 256 * 65536 + x / 16777216 % 256 * 16777216 + x / 4294967296 % 256 * 4294967296 + x / 1099511627776 % 256 * 1099511627776 + x / 281474976710656 % 256 * 281474976710656 + x / 72057594037927936 * 72057594037927936 := by
    simp [v8, cl, List.getD]
  rw [e]
  refine Prod.ext ?_ rfl
  simp only
  omega
theorem g64_short (l : List Int) (h : l.length < 8) : g64 l = (0, false) := if_pos h

set_option maxHeartbeats 8000000 in
set_option maxRecDepth 100000 in
theorem core (x k : Int) (A : Option Addr) (c : Nat) (l s : List Int) (w : World) (x0 : 0 ≤ x) (x1 : x ≤ 18446744073709551615) (k0 : 0 ≤ k) (k1 : k ≤ 255) (HR : Aside0 (Kd.C (Kd.int .u8) w A s.length s)) (hcs : s.length ≤ c) (h40 : s.length ≤ 40) (hsb : Aside0 (Bytes s))
    (hf : ∀ W, Calls Try.prog 14 #[.slice A l.length c] W fun e w' => e = .returned (.slice A s.length c) ∧ W = w') :
    Calls Try.prog 7 #[.int .u64 x, .slice A l.length c, .int .u8 k] w fun e w' => e = .returned (.bool true) ∧ Below w.heap.size w w' := by
  have HB := Aside0.mk (Below.refl w.heap.size w)
  have HF := Aside0.mk hf
  clear hf
  obtain ⟨n, hn⟩ : ∃ n, (pv x.toNat).length = n := ⟨_, rfl⟩
  have n1 : 1 ≤ n := by rw [← hn]; exact pv_pos _
  have n2 : n ≤ 10 := by rw [← hn]; exact pv_le10 _ (by omega)
  obtain ⟨P, hP⟩ : ∃ P, pv x.toNat = P := ⟨_, rfl⟩
  rw [hP] at hn
  have HV : Aside0 (∀ (A : Option Addr) (c : Nat) (W : World), Kd.C (Kd.int .u8) W A (P ++ s).length (P ++ s) → (P ++ s).length ≤ c → Calls Try.prog 13 #[.slice A (P ++ s).length c] W fun e w' => e = .returned (.tuple #[.int .u64 x, .int .i64 n]) ∧ Drawn0 W w') := ⟨fun A c W h hc => by
    have h1 := varC A c (P ++ s) W h hc ((by rw [← hP]; exact pv_Bytes _ : Bytes P).append hsb.out) (by rw [List.length_append, hn]; omega)
    rw [← hP, var_pv (y := x.toNat) (by omega) ⟨s, rfl⟩, hP, hn, Int.toNat_of_nonneg x0] at h1
    exact h1⟩
  have HG : Aside0 (∀ (A : Option Addr) (c : Nat) (W : World), Kd.C (Kd.int .u8) W A (cl x ++ s).length (cl x ++ s) → (cl x ++ s).length ≤ c → Calls Try.prog 16 #[.slice A (cl x ++ s).length c] W fun e w' => e = .returned (.tuple #[.int .u64 x, .bool true]) ∧ W = w') := ⟨fun A c W h hc => by
    have h1 := get64 A c (cl x ++ s) W h hc ((cl_bytes x x0 x1).append hsb.out)
    rw [v8_cl x s x0 x1] at h1
    exact h1⟩
  obtain ⟨k', hk'⟩ : ∃ k', k % (n : Int) = k' := ⟨_, rfl⟩
  have hk0 : 0 ≤ k' := by rw [← hk']; exact Int.emod_nonneg _ (by omega)
  have hk1 : k' < n := by rw [← hk']; exact Int.emod_lt_of_pos _ (by omega)
  obtain ⟨k8, hk8⟩ : ∃ k8, k % 8 = k8 := ⟨_, rfl⟩
  have hk80 : 0 ≤ k8 := by omega
  have hk81 : k8 < 8 := by omega
  have HV2 : Aside0 (∀ (A : Option Addr) (c : Nat) (W : World), Kd.C (Kd.int .u8) W A n P → n ≤ c → Calls Try.prog 13 #[.slice A k'.toNat c] W fun e w' => e = .returned (.tuple #[.int .u64 0, .int .i64 0]) ∧ Drawn0 W w') := ⟨fun A c W h hc => by
    have h2 := Kd.C_take (m := k'.toNat) (xs := P) (by rw [hn]; exact h) (by omega)
    have hl : (P.take k'.toNat).length = k'.toNat := by rw [List.length_take]; omega
    have h1 := varC A c _ W h2 (by omega) ((by rw [← hP]; exact pv_Bytes _ : Bytes P).take _) (by omega)
    rw [hl, show P.take k'.toNat = (pv x.toNat).take k'.toNat by rw [hP], var_part x.toNat (by omega) k'.toNat (by rw [hP]; omega)] at h1
    exact h1⟩
  have HG2 : Aside0 (∀ (A : Option Addr) (c : Nat) (W : World), Kd.C (Kd.int .u8) W A 8 (cl x) → 8 ≤ c → Calls Try.prog 16 #[.slice A k8.toNat c] W fun e w' => e = .returned (.tuple #[.int .u64 0, .bool false]) ∧ W = w') := ⟨fun A c W h hc => by
    have h2 := Kd.C_take (m := k8.toNat) (xs := cl x) h (by rw [cl_length]; omega)
    have hl : ((cl x).take k8.toNat).length = k8.toNat := by rw [List.length_take, cl_length]; omega
    have h1 := get64 A c _ W h2 (by omega) ((cl_bytes x x0 x1).take _)
    rw [hl, g64_short _ (by omega)] at h1
    exact h1⟩
  have HN := Aside0.mk hn
  have HP := Aside0.mk hP
  clear hn hP
  obtain ⟨PS, hPS⟩ : ∃ PS, P ++ s = PS := ⟨_, rfl⟩
  obtain ⟨QS, hQS⟩ : ∃ QS, cl x ++ s = QS := ⟨_, rfl⟩
  rw [hPS] at HV
  rw [hQS] at HG
  have HPS := Aside0.mk hPS
  have HQS := Aside0.mk hQS
  clear hPS hQS
  go_enter Try.func7, Try.ntmps7
  go_wp2_with (fail)
  (with_reducible refine (shown _).mono ?_); rintro e w1 ⟨rfl, hb⟩
  replace HB := Aside0.mk (below_step HB.out hb); replace HR := Aside0.mk (Kd.C_below HR.out hb); clear hb
  go_wp2_with (fail)
  (with_reducible refine (putVar _ x0 x1 _).mono ?_); rintro e w2 ⟨v, rfl, ho, hb⟩
  rw [HP.out] at ho
  obtain ⟨Ap, cp, rfl, lp, ho⟩ := R_C ho
  rw [HN.out] at ho lp ⊢
  replace HB := Aside0.mk (below_step HB.out hb); replace HR := Aside0.mk (Kd.C_below HR.out hb); have HCP := Aside0.mk ho; clear ho hb
  go_wp2_with (fail)
  (with_reducible refine (put64 _ x0 x1 _).mono ?_); rintro e w3 ⟨Aq, rfl, ho, hb⟩
  rw [cl_length] at ho
  replace HB := Aside0.mk (below_step HB.out hb); replace HR := Aside0.mk (Kd.C_below HR.out hb); replace HCP := Aside0.mk (Kd.C_below HCP.out hb); have HCQ := Aside0.mk ho; clear ho hb
  go_wp2_with (first
    | (at_builtin; refine appendRow (k := .u8) (w0 := w3) rfl (.tmp 37) (.tmp 38) 24 5 1 rfl Try.underlying24 info_u8 (by decide) _ _ _ _ _ _ rfl rfl (R_empty 5 _) (Kd.C_alloc HCP.out _) (below_alloc (Below.refl _ _) _) (by simp; omega) ?_; intro v4 w4 ho4 hb4; rw [List.nil_append] at ho4; have HO4 := Aside0.mk ho4; have HB4 := Aside0.mk hb4; clear ho4 hb4)
    | (go_at_call 14; refine (HF.out _).mono ?_; rintro e w5 ⟨rfl, rfl⟩)
    | (at_builtin; refine appendRow (k := .u8) (w0 := w3) rfl (.tmp 39) (.tmp 41) 24 5 1 rfl Try.underlying24 info_u8 (by decide) _ _ _ _ _ _ rfl rfl HO4.out (Kd.C_below HR.out HB4.out) HB4.out (by rw [HN.out]; omega) ?_; intro v5 w5 ho5 hb5; rw [HPS.out] at ho5; have HO5 := Aside0.mk ho5; have HB5 := Aside0.mk hb5; clear ho5 hb5 HO4 HB4))
  obtain ⟨A5, c5, rfl, l5, ho⟩ := R_C HO5.out
  refine (HV.out A5 c5 _ ho l5).mono ?_; rintro e w6 ⟨rfl, ⟨nd, rfl⟩⟩
  replace HB := Aside0.mk (pw_below_drewN (below_step HB.out HB5.out) nd); replace HR := Aside0.mk (Kd.C_drewN (Kd.C_below HR.out HB5.out) nd); replace HCP := Aside0.mk (Kd.C_drewN (Kd.C_below HCP.out HB5.out) nd); replace HCQ := Aside0.mk (Kd.C_drewN (Kd.C_below HCQ.out HB5.out) nd); clear HO5 HB5 ho
  generalize w5.drewN nd = w6 at *
  go_wp2_with (first
    | (at_builtin; refine appendRow (k := .u8) (w0 := w6) rfl (.tmp 47) (.tmp 48) 24 5 1 rfl Try.underlying24 info_u8 (by decide) _ _ _ _ _ _ rfl rfl (R_empty 5 _) (Kd.C_alloc HCQ.out _) (below_alloc (Below.refl _ _) _) (by simp) ?_; intro v7 w7 ho7 hb7; rw [List.nil_append] at ho7; have HO7 := Aside0.mk ho7; have HB7 := Aside0.mk hb7; clear ho7 hb7)
    | (go_at_call 14; refine (HF.out _).mono ?_; rintro e w8 ⟨rfl, rfl⟩)
    | (at_builtin; refine appendRow (k := .u8) (w0 := w6) rfl (.tmp 49) (.tmp 51) 24 5 1 rfl Try.underlying24 info_u8 (by decide) _ _ _ _ _ _ rfl rfl HO7.out (Kd.C_below HR.out HB7.out) HB7.out (by rw [cl_length]; omega) ?_; intro v8 w8 ho8 hb8; rw [HQS.out] at ho8; have HO8 := Aside0.mk ho8; have HB8 := Aside0.mk hb8; clear ho8 hb8 HO7 HB7))
  obtain ⟨A8, c8, rfl, l8, ho⟩ := R_C HO8.out
  refine (HG.out A8 c8 _ ho l8).mono ?_; rintro e w9 ⟨rfl, rfl⟩
  replace HB := Aside0.mk (below_step HB.out HB8.out); replace HCP := Aside0.mk (Kd.C_below HCP.out HB8.out); replace HCQ := Aside0.mk (Kd.C_below HCQ.out HB8.out); clear HO8 HB8 ho HR HF HV HG
  have hcut := cutTo (P := Try.prog) 24 5 Try.underlying24 info_u8 Ap n cp k' hk0 (by omega) lp
  have hcut8 := cutTo (P := Try.prog) 24 5 Try.underlying24 info_u8 Aq 8 8 k8 hk80 (by omega) (Nat.le_refl _)
  go_wp2_with (fail)
  refine (HV2.out _ _ _ HCP.out lp).mono ?_; rintro e w10 ⟨rfl, ⟨nd, rfl⟩⟩
  replace HB := Aside0.mk (pw_below_drewN HB.out nd); replace HCQ := Aside0.mk (Kd.C_drewN HCQ.out nd); clear HV2 HCP
  go_wp2_with (fail)
  refine (HG2.out _ _ _ HCQ.out (Nat.le_refl _)).mono ?_; rintro e w11 ⟨rfl, rfl⟩
  go_wp2_with (fail)
  go_ret
  exact ⟨rfl, HB.out⟩

theorem walk (x : Int) (A : Option Addr) (c : Nat) (l : List Int) (k : Int) (w : World) (hx : (Lit.int .u64 x).wf = true) (hr : Kd.C (Kd.int .u8) w A l.length l) (hc : l.length ≤ c) (hw : ∀ n ∈ l, (Lit.int .u8 n).wf = true) (hy : l.length * 1 ≤ 140737488351232) (hk : (Lit.int .u8 k).wf = true) :
    Calls Try.prog 7 #[.int .u64 x, .slice A l.length c, .int .u8 k] w fun e w' => e = .returned (.bool true) ∧ Below w.heap.size w w' :=
  core x k A c l (l.take 40) w (wf_u64 hx).1 (wf_u64 hx).2 (wf_u8 hk).1 (wf_u8 hk).2 ⟨C_take_any 40 hr⟩ (by rw [List.length_take]; omega) (by rw [List.length_take]; omega)
    ⟨fun y hy => by have := wf_u8 (hw y (List.mem_of_mem_take hy)); omega⟩ (fun W => shortC A c l W hc (by omega))

end Go.Proofs.Ytjemdpbbdkfamaa.WNumBack
