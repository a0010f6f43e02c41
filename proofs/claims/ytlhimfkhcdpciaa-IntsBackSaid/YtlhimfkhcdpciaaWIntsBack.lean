/- The walk of the law IntsBack. -/
import Derived.Test.YtlhimfkhcdpciaaCTake2
import Derived.Test.YtlhimfkhcdpciaaCSame
namespace Go.Proofs.Ytlhimfkhcdpciaa.WIntsBack
open Go.RowKit Go.Proofs.YtlhimfkhcdpciaaW.PrintWords Go.Proofs.YtlhimfkhcdpciaaW.PrintLast Go.Proofs.YtlhimfkhcdpciaaW.PrintMore Go.Proofs.Ytlhimfkhcdpciaa.Num Go.Proofs.Ytlhimfkhcdpciaa.Bits Go.Proofs.Ytlhimfkhcdpciaa.VarM Go.Proofs.Ytlhimfkhcdpciaa.Ints Go.Proofs.Ytlhimfkhcdpciaa.IntsT Go.Proofs.Ytlhimfkhcdpciaa.Hold Go.Proofs.Ytlhimfkhcdpciaa.CTake Go.Proofs.Ytlhimfkhcdpciaa.CTake2 Go.Proofs.Ytlhimfkhcdpciaa.CSame
open Go.Proofs.Ytlhimfkhcdpciaa.CInts (shown putInts)
open Go.Proofs.Ytlhimfkhcdpciaa.WIntsLength (few info_i64)
set_option linter.unusedVariables false
set_option linter.unusedSimpArgs false
attribute [local go_sem] max2_int min2_int max_two min_two max_three min_three max_four min_four

set_option maxHeartbeats 8000000 in
set_option maxRecDepth 100000 in
theorem core (A : Option Addr) (c : Nat) (l m : List Int) (at_ k : Int) (w : World) (HR : Aside0 (Kd.C (Kd.int .i64) w A m.length m)) (hcm : m.length ≤ c) (hn : m.length ≤ 60) (hm : Aside0 (∀ x ∈ m, I64 x)) (a0 : 0 ≤ at_) (a1 : at_ ≤ 65535) (k0 : 0 ≤ k) (k1 : k ≤ 255)
    (hfew : ∀ W, Calls Try.prog 12 #[.slice A l.length c] W fun e w' => e = .returned (.slice A m.length c) ∧ W = w') :
    Calls Try.prog 7 #[.slice A l.length c, .int .u16 at_, .int .u8 k] w fun e w' => e = .returned (.bool true) ∧ Below w.heap.size w w' := by
  have HB := Aside0.mk (Below.refl w.heap.size w)
  have HF := Aside0.mk hfew
  clear hfew
  obtain ⟨P, hP⟩ : ∃ P, put m = P := ⟨_, rfl⟩
  obtain ⟨n, hnP⟩ : ∃ n, P.length = n := ⟨_, rfl⟩
  have hbP : Bytes P := by rw [← hP]; exact put_Bytes m
  have hlen : 2 ≤ n ∧ n ≤ 8 * m.length + 2 := by
    rw [← hnP, ← hP]
    unfold put
    have h1 := fx_length m
    split
    · rw [List.length_append, List.length_cons, pv_small (by omega)]; simp; omega
    · rw [List.length_append, List.length_cons, pv_small (by omega)]; simp; omega
  have hn2 : 2 ≤ n := hlen.1
  have hn8 : (n : Int) ≤ 8 * (m.length : Int) + 2 := by omega
  obtain ⟨j, hj⟩ : ∃ j, at_ % (n : Int) = j := ⟨_, rfl⟩
  have hj0 : 0 ≤ j := by rw [← hj]; exact Int.emod_nonneg _ (by omega)
  have hj1 : j < n := by rw [← hj]; exact Int.emod_lt_of_pos _ (by omega)
  have HT1 : Aside0 (∀ (A : Option Addr) (c : Nat) (W : World), Kd.C (Kd.int .u8) W A n P → n ≤ c → Calls Try.prog 14 #[.slice A n c] W fun e w' => ∃ A' c', e = .returned (.tuple #[.slice A' m.length c', .int .i64 0]) ∧ m.length ≤ c' ∧ Kd.C (Kd.int .i64) w' A' m.length m ∧ Below W.heap.size W w') := ⟨fun A c W h hc => by
    have h1 := take_some A c P W (by rw [hnP]; exact h) (by omega) hbP (by omega) m (by rw [← hP]; exact takeM_put m hm.out (by omega))
    rw [hnP] at h1
    exact h1⟩
  have HT2 : Aside0 (∀ (A : Option Addr) (c : Nat) (W : World), Kd.C (Kd.int .u8) W A n P → n ≤ c → Calls Try.prog 14 #[.slice A j.toNat c] W fun e w' => e = .returned (.tuple #[.slice none 0 0, .int .i64 10]) ∧ Below W.heap.size W w') := ⟨fun A c W h hc => by
    have h2 := Kd.C_take (m := j.toNat) (xs := P) (by rw [hnP]; exact h) (by omega)
    have hl : (P.take j.toNat).length = j.toNat := by rw [List.length_take]; omega
    have h1 := take_none A c _ W h2 (by omega) (hbP.take _) (by omega) (by rw [← hP]; exact takeM_part m j.toNat hm.out (by omega) (by rw [hP]; omega))
    rw [hl] at h1
    exact h1⟩
  have HT3 : Aside0 (∀ (A : Option Addr) (c : Nat) (W : World), Kd.C (Kd.int .u8) W A (P ++ [k]).length (P ++ [k]) → (P ++ [k]).length ≤ c → Calls Try.prog 14 #[.slice A (P ++ [k]).length c] W fun e w' => e = .returned (.tuple #[.slice none 0 0, .int .i64 10]) ∧ Below W.heap.size W w') := ⟨fun A c W h hc =>
    take_none A c _ W h hc (hbP.append (fun y hy => by simp at hy; omega)) (by rw [List.length_append, hnP]; simp; omega) (by rw [← hP]; exact takeM_more m [k] hm.out (by omega) (by simp))⟩
  obtain ⟨Pk, hPk⟩ : ∃ Pk, P ++ [k] = Pk := ⟨_, rfl⟩
  rw [hPk] at HT3
  have HPK := Aside0.mk hPk
  have HP := Aside0.mk hP
  have HN := Aside0.mk hnP
  clear hP hnP hbP hPk hlen
  go_enter Try.func7, Try.ntmps7
  go_wp2_with (fail)
  (with_reducible refine (shown _).mono ?_); rintro e w1 ⟨rfl, hb⟩
  replace HB := Aside0.mk (below_step HB.out hb); replace HR := Aside0.mk (Kd.C_below HR.out hb); clear hb
  go_wp2_with (fail)
  refine (HF.out _).mono ?_; rintro e w2 ⟨rfl, rfl⟩
  clear HF
  go_wp2_with (at_builtin; refine appendRow (k := .i64) (w0 := w1) rfl (.tmp 21) (.tmp 22) 25 2 8 rfl Try.underlying25 info_i64 (by decide) _ _ _ _ _ _ rfl rfl (R_empty 2 _) (Kd.C_alloc HR.out _) (below_alloc (Below.refl _ _) _) (by simp; omega) ?_; intro v2 w2 ho2 hb2; rw [List.nil_append] at ho2; obtain ⟨Ao, co, rfl, lo, ho⟩ := R_C ho2; have HO := Aside0.mk ho; have HB2 := Aside0.mk hb2; clear ho2 hb2 ho)
  replace HB := Aside0.mk (below_step HB.out HB2.out); replace HR := Aside0.mk (Kd.C_below HR.out HB2.out); clear HB2
  (with_reducible refine (putInts A c m _ HR.out hcm (by omega)).mono ?_); rintro e w3 ⟨v, rfl, ho, hb⟩
  rw [HP.out] at ho
  obtain ⟨Ap, cp, rfl, lp, ho⟩ := R_C ho
  rw [HN.out] at ho lp ⊢
  replace HB := Aside0.mk (below_step HB.out hb); replace HR := Aside0.mk (Kd.C_below HR.out hb); replace HO := Aside0.mk (Kd.C_below HO.out hb); have HC := Aside0.mk ho; clear hb ho
  go_wp2_with (fail)
  refine (HT1.out _ _ _ HC.out lp).mono ?_; rintro e w4 ⟨Ax, cx, rfl, lx, hx, hb⟩
  replace HB := Aside0.mk (below_step HB.out hb); replace HR := Aside0.mk (Kd.C_below HR.out hb); replace HO := Aside0.mk (Kd.C_below HO.out hb); replace HC := Aside0.mk (Kd.C_below HC.out hb); have HX := Aside0.mk hx; clear hb hx HT1
  go_wp2_with (fail)
  (with_reducible refine (same Ax Ao cx co m _ HX.out lx HO.out lo (by omega)).mono ?_); rintro e w5 ⟨rfl, ⟨nd, rfl⟩⟩
  replace HB := Aside0.mk (pw_below_drewN HB.out nd); replace HR := Aside0.mk (Kd.C_drewN HR.out nd); replace HO := Aside0.mk (Kd.C_drewN HO.out nd); replace HC := Aside0.mk (Kd.C_drewN HC.out nd); clear HX
  generalize w4.drewN nd = w5 at *
  go_wp2_with (fail)
  (with_reducible refine (same A Ao c co m _ HR.out hcm HO.out lo (by omega)).mono ?_); rintro e w6 ⟨rfl, ⟨nd, rfl⟩⟩
  replace HB := Aside0.mk (pw_below_drewN HB.out nd); replace HC := Aside0.mk (Kd.C_drewN HC.out nd); clear HR HO
  generalize w5.drewN nd = w6 at *
  have hcut := cutTo (P := Try.prog) 26 5 Try.underlying26 info_u8 Ap n cp j hj0 (by omega) lp
  go_wp2_with (fail)
  refine (HT2.out _ _ _ HC.out lp).mono ?_; rintro e w7 ⟨rfl, hb⟩
  replace HB := Aside0.mk (below_step HB.out hb); replace HC := Aside0.mk (Kd.C_below HC.out hb); clear hb HT2
  go_wp2_with (first
    | (at_builtin; refine appendRow (k := .u8) (w0 := w7) rfl (.tmp 61) (.tmp 62) 26 5 1 rfl Try.underlying26 info_u8 (by decide) _ _ _ _ _ _ rfl rfl (R_empty 5 _) (Kd.C_alloc HC.out _) (below_alloc (Below.refl _ _) _) (by simp; omega) ?_; intro v8 w8 ho8 hb8; rw [List.nil_append] at ho8; have HO8 := Aside0.mk ho8; have HB8 := Aside0.mk hb8; clear ho8 hb8)
    | (at_builtin; refine appendOne (k := .u8) (w0 := w7) rfl (.tmp 63) (.tmp 65) 26 5 1 rfl Try.underlying26 info_u8 (by decide) _ _ k rfl rfl HO8.out HB8.out (by rw [HN.out]; omega) ?_; intro v9 w9 ho9 hb9; rw [HPK.out] at ho9; obtain ⟨A9, c9, rfl, l9, ho⟩ := R_C ho9; have HO9 := Aside0.mk ho; have HB9 := Aside0.mk hb9; clear ho9 hb9 ho HO8 HB8))
  refine (HT3.out _ _ _ HO9.out l9).mono ?_; rintro e w10 ⟨rfl, hb⟩
  replace HB := Aside0.mk (below_step (below_step HB.out HB9.out) hb); clear hb
  go_wp2_with (fail)
  go_ret
  exact ⟨rfl, HB.out⟩

theorem walk (A : Option Addr) (c : Nat) (l : List Int) (at_ k : Int) (w : World) (hr : Kd.C (Kd.int .i64) w A l.length l) (hc : l.length ≤ c) (hw : ∀ n ∈ l, (Lit.int .i64 n).wf = true) (hy : l.length * 8 ≤ 140737488351232) (ha : (Lit.int .u16 at_).wf = true) (hk : (Lit.int .u8 k).wf = true) :
    Calls Try.prog 7 #[.slice A l.length c, .int .u16 at_, .int .u8 k] w fun e w' => e = .returned (.bool true) ∧ Below w.heap.size w w' :=
  core A c l (l.take 60) at_ k w ⟨C_take_any 60 hr⟩ (by rw [List.length_take]; omega) (by rw [List.length_take]; omega) ⟨fun x hx => wf_i64 (hw x (List.mem_of_mem_take hx))⟩ (wf_u16 ha).1 (wf_u16 ha).2 (wf_u8 hk).1 (wf_u8 hk).2 (fun W => few A c l W hc (by omega))

end Go.Proofs.Ytlhimfkhcdpciaa.WIntsBack
