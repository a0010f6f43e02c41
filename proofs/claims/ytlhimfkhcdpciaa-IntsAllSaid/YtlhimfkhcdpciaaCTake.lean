/-
  The contract of ints.Take.
-/
import Derived.Test.YtlhimfkhcdpciaaQIntsAllx2
import Derived.Test.YtlhimfkhcdpciaaQIntsAllx3
import Derived.Test.YtlhimfkhcdpciaaCVar
import Derived.Test.YtlhimfkhcdpciaaCInts
import Derived.Test.YtlhimfkhcdpciaaIntsT
import Derived.Test.YtlhimfkhcdpciaaHold
import Derived.Test.YtlhimfkhcdpciaaShelf
namespace Go.Proofs.Ytlhimfkhcdpciaa.CTake
open Go.RowKit Go.Proofs.Ytlhimfkhcdpciaa.QIntsAll Go.Proofs.YtlhimfkhcdpciaaW.PrintWords Go.Proofs.YtlhimfkhcdpciaaW.PrintLast Go.Proofs.YtlhimfkhcdpciaaW.PrintMore Go.Proofs.Ytlhimfkhcdpciaa.Num Go.Proofs.Ytlhimfkhcdpciaa.Bits Go.Proofs.Ytlhimfkhcdpciaa.VarM Go.Proofs.Ytlhimfkhcdpciaa.CGet64 Go.Proofs.Ytlhimfkhcdpciaa.Ints Go.Proofs.Ytlhimfkhcdpciaa.IntsT Go.Proofs.Ytlhimfkhcdpciaa.Hold
open Go.Proofs.Ytlhimfkhcdpciaa.CVar (varC len_f)
open Go.Proofs.Ytlhimfkhcdpciaa.CInts (putInts)
set_option linter.unusedVariables false
set_option linter.unusedSimpArgs false
attribute [local go_sem] max2_int min2_int max_two min_two max_three min_three max_four min_four

theorem info_u8 : (Try.prog.info? 5).map (fun i => (i.zero, i.size, i.bytes)) = some (some (.int .u8 0), 1, 1) := by kernel_rfl
theorem C_V {w : World} {A : Option Addr} {c : Nat} {l : List Int} (h : Kd.C (Kd.int .u8) w A l.length l) (hc : l.length ≤ c) : Kd.V (Kd.int .u8) 5 w w.heap.size (fun k_ => k_ < w.heap.size) (.slice A l.length c) l :=
  Kd.V_mk hc (Kd.C_F (Kd.heap_int .u8) h)

theorem get_f (k : Nat) (l : List Int) (hb : Bytes l) : num_Get64.f k l = some (g64 l) := by
  unfold num_Get64.f
  exact if_pos hb
theorem wide_loop (n : Nat) (hn : n ≤ 2000) (d : Nat) : ∀ (k i : Nat) (l acc : List Int), i + d = n → d < k → acc.length = i → Bytes l →
    ints_wide.l0 k l acc (n : Int) (i : Int) = some (match wideR l d with | some p => (acc ++ p.1, true) | none => ([], false)) := by
  induction d with
  | zero =>
    intro k i l acc hi hk ha hb
    obtain ⟨k, rfl⟩ : ∃ m, k = m + 1 := ⟨k - 1, by omega⟩
    rw [ints_wide.l0, if_neg (by omega), wideR]
    simp
  | succ d ih =>
    intro k i l acc hi hk ha hb
    obtain ⟨k, rfl⟩ : ∃ m, k = m + 1 := ⟨k - 1, by omega⟩
    have e : wrap64 ((i : Int) + 1) = ((i + 1 : Nat) : Int) := by rw [wrap64_id (by omega) (by omega)]; rfl
    rw [ints_wide.l0, if_pos (by omega), get_f k l hb, Option.bind_some, wideR]
    unfold g64
    by_cases h8 : l.length < 8
    · rw [if_pos h8, if_pos h8, if_neg (by decide)]
    · rw [if_neg h8, if_neg h8, if_pos rfl, if_pos (by omega), if_pos (by omega), e, ih k (i + 1) _ _ (by omega) (by omega) (by simp [ha]) (hb.drop 8)]
      cases wideR (l.drop 8) d <;> simp
theorem zag_f (u : Int) (h0 : 0 ≤ u) (h1 : u ≤ 18446744073709551615) : num_Zag.f u = some (zag u) := by
  unfold num_Zag.f; rw [zag_eq u h0 h1]
theorem var_f (l : List Int) (k : Nat) (hb : Bytes l) (hn : l.length < 1000000000000) (hk : 2 * l.length < k) : num_Var.f k l = some (var l) := by
  unfold num_Var.f
  exact var_loop (l0 := num_Var.l0) (j1 := num_Var.j1) (lf := bits_Len64.f) (fun _ _ _ _ _ _ => rfl) (fun _ _ _ _ _ _ _ _ _ _ => rfl) len_f l hb hn l.length k 0 0 (by omega) hk (by omega) (by simp)
theorem steps_loop (n : Nat) (hn : n ≤ 2000) (N : Nat) (hN : N < 1000000000) (d : Nat) : ∀ (k i : Nat) (l acc : List Int) (last : Int), i + d = n → d + 2 * N < k → acc.length = i → Bytes l → l.length ≤ N →
    ints_steps.l0 k l acc last (n : Int) (i : Int) = some (match stepsR l d last with | some p => (acc ++ p.1, true) | none => ([], false)) := by
  induction d with
  | zero =>
    intro k i l acc last hi hk ha hb hl
    obtain ⟨k, rfl⟩ : ∃ m, k = m + 1 := ⟨k - 1, by omega⟩
    rw [ints_steps.l0, if_neg (by omega), stepsR]
    simp
  | succ d ih =>
    intro k i l acc last hi hk ha hb hl
    obtain ⟨k, rfl⟩ : ∃ m, k = m + 1 := ⟨k - 1, by omega⟩
    have hv := var_range hb
    have q1 : i + 1 + d = n := by omega
    have q2 : d + 2 * N < k := by omega
    have q3 : (i : Int) < (n : Int) := by omega
    have q4 : acc.length < 17592186044416 := by omega
    have q5 : (l.drop (var l).2.toNat).length ≤ N := by rw [List.length_drop]; omega
    have e : wrap64 ((i : Int) + 1) = ((i + 1 : Nat) : Int) := by rw [wrap64_id (by omega) (by omega)]; rfl
    rw [ints_steps.l0, if_pos q3, var_f l k hb (Nat.lt_of_le_of_lt hl (Nat.lt_trans hN (by decide))) (Nat.lt_of_le_of_lt (Nat.mul_le_mul_left 2 hl) (Nat.lt_of_le_of_lt (Nat.le_add_left _ d) q2)), Option.bind_some, stepsR]
    by_cases h0 : (var l).2 = 0
    · rw [if_pos h0, if_pos h0]
    · rw [if_neg h0, if_neg h0, zag_f _ hv.1 hv.2.1, Option.bind_some, if_pos q4, if_pos hv.2.2.1, if_pos hv.2.2.2.1, e, ih k (i + 1) _ _ _ q1 q2 (by simp [ha]) (hb.drop _) q5]
      cases stepsR (l.drop (var l).2.toNat) d (wrap64 (last + zag (var l).1)) <;> simp

theorem wideC (A : Option Addr) (c : Nat) (l : List Int) (n : Nat) (w : World) (hr : Kd.C (Kd.int .u8) w A l.length l) (hc : l.length ≤ c) (hb : Bytes l) (hn : n ≤ 2000) :
    Calls Try.prog 23 #[.slice A l.length c, .int .i64 n] w fun e w' => ∃ v, e = .returned (.tuple #[v, .bool (wideR l n).isSome]) ∧ Kd.R (Kd.int .i64) 2 w' w.heap.size (fun _ => True) v (((wideR l n).map Prod.fst).getD []) ∧ Below w.heap.size w w' := by
  have hf : ints_wide.f (n + 1) l (n : Int) = some (((wideR l n).map Prod.fst).getD [], (wideR l n).isSome) := by
    unfold ints_wide.f
    have h := wide_loop n hn n (n + 1) 0 l [] (by omega) (by omega) rfl hb
    rw [show ((0 : Nat) : Int) = 0 from rfl] at h
    rw [h]
    cases wideR l n <;> simp
  refine (ints_wide.calls (n + 1) _ A c l n _ _ w (C_V hr hc) hf).mono ?_
  rintro e w' ⟨v, rfl, ho, hb⟩
  exact ⟨v, rfl, Kd.R_mono ho (fun _ _ => trivial), hb⟩
theorem stepsC (A : Option Addr) (c : Nat) (l : List Int) (n : Nat) (w : World) (hr : Kd.C (Kd.int .u8) w A l.length l) (hc : l.length ≤ c) (hb : Bytes l) (hn : n ≤ 2000) (hl : l.length < 1000000000) :
    Calls Try.prog 24 #[.slice A l.length c, .int .i64 n] w fun e w' => ∃ v, e = .returned (.tuple #[v, .bool (stepsR l n 0).isSome]) ∧ Kd.R (Kd.int .i64) 2 w' w.heap.size (fun _ => True) v (((stepsR l n 0).map Prod.fst).getD []) ∧ Below w.heap.size w w' := by
  have hf : ints_steps.f (n + 2 * l.length + 1) l (n : Int) = some (((stepsR l n 0).map Prod.fst).getD [], (stepsR l n 0).isSome) := by
    unfold ints_steps.f
    have h := steps_loop n hn l.length hl n (n + 2 * l.length + 1) 0 l [] 0 (by omega) (by omega) rfl hb (Nat.le_refl _)
    rw [show ((0 : Nat) : Int) = 0 from rfl] at h
    rw [h]
    cases stepsR l n 0 <;> simp
  refine (ints_steps.calls (n + 2 * l.length + 1) _ A c l n _ _ w (C_V hr hc) hf).mono ?_
  rintro e w' ⟨v, rfl, ho, hb⟩
  exact ⟨v, rfl, Kd.R_mono ho (fun _ _ => trivial), hb⟩

set_option maxHeartbeats 8000000 in
set_option maxRecDepth 100000 in
theorem steps_bad (A : Option Addr) (c : Nat) (b : List Int) (w : World) (hr : Kd.C (Kd.int .u8) w A b.length b) (hc : b.length ≤ c) (hb : Bytes b) (hl : b.length < 1000000000) (n p : Nat) (hv : var b = ((n : Int), (p : Int))) (h0 : 1 ≤ p) (hn : n ≤ 2000) (hp : p < b.length)
    (hway : b.getD p 0 = 1) (hT : stepsR (b.drop (p + 1)) n 0 = none) :
    Calls Try.prog 14 #[.slice A b.length c] w fun e w' => e = .returned (.tuple #[.slice none 0 0, .int .i64 10]) ∧ Below w.heap.size w w' := by
  have hvc := fun W h => varC A c b W h hc hb (by omega)
  rw [hv] at hvc
  have HV := Aside0.mk hvc
  clear hvc hv
  obtain ⟨ad, rfl, hcells⟩ := C_cells hr (by omega)
  have hcell0 := hcells p hp
  clear hcells
  obtain ⟨k, hk⟩ : ∃ k, b.getD p 0 = k := ⟨_, rfl⟩
  rw [hk] at hcell0 hway
  clear hk
  subst hway
  obtain ⟨A2, hcut, h2, hc2⟩ := cutFrom (P := Try.prog) 26 5 Try.underlying26 info_u8 .u8 (some ad) c b ((p : Int) + 1) (by omega) (by omega) hc
  rw [show ((p : Int) + 1).toNat = p + 1 from by omega] at hcut h2 hc2
  have hread := fun W h => stepsC A2 (c - (p + 1)) (b.drop (p + 1)) n W (h2 W h) hc2 (hb.drop _) hn (by rw [List.length_drop]; omega)
  rw [hT] at hread
  have HD := Aside0.mk hread
  clear hread h2 hc2 hT
  obtain ⟨D, hD⟩ : ∃ D, b.drop (p + 1) = D := ⟨_, rfl⟩
  rw [hD] at HD hcut
  clear hD
  have hpI : (p : Int) < (b.length : Int) := by omega
  have hp1 : ((p : Int) == 0) = false := beq_eq_false_iff_ne.mpr (by omega)
  have HR := Aside0.mk hr
  have hb2 := Aside0.mk hb
  clear hr hb
  have hwr : wrap64 (n : Int) = (n : Int) := wrap64_id (by omega) (by omega)
  go_enter Try.func14, Try.ntmps14
  go_wp2_with (fail)
  refine (HV.out _ HR.out).mono ?_; rintro e w1 ⟨rfl, ⟨nd, rfl⟩⟩
  have HR1 := Aside0.mk (Kd.C_drewN HR.out nd)
  have HB1 := Aside0.mk (pw_below_drewN (Below.refl w.heap.size w) nd)
  have hcell := (show (w.drewN nd).cell? (ad.add p) = some (.int .u8 1) from hcell0)
  clear HV HR hcell0
  generalize w.drewN nd = w1 at *
  go_wp2_with (fail)
  refine (HD.out _ HR1.out).mono ?_; rintro e w2 ⟨v, rfl, ho, hb⟩
  have HB2 := Aside0.mk (below_step HB1.out hb)
  clear ho hb HD
  go_wp2_with (fail)
  go_ret2
  exact ⟨rfl, HB2.out⟩

set_option maxHeartbeats 8000000 in
set_option maxRecDepth 100000 in
theorem steps_other (A : Option Addr) (c : Nat) (b : List Int) (w : World) (hr : Kd.C (Kd.int .u8) w A b.length b) (hc : b.length ≤ c) (hb : Bytes b) (hl : b.length < 1000000000) (n p : Nat) (hv : var b = ((n : Int), (p : Int))) (h0 : 1 ≤ p) (hn : n ≤ 2000) (hp : p < b.length)
    (hway : b.getD p 0 = 1) (x r : List Int) (hT : stepsR (b.drop (p + 1)) n 0 = some (x, r)) (hx : x.length ≤ 2000) (hput : put x ≠ b) :
    Calls Try.prog 14 #[.slice A b.length c] w fun e w' => e = .returned (.tuple #[.slice none 0 0, .int .i64 10]) ∧ Below w.heap.size w w' := by
  have hvc := fun W h => varC A c b W h hc hb (by omega)
  rw [hv] at hvc
  have HV := Aside0.mk hvc
  clear hvc hv
  obtain ⟨ad, rfl, hcells⟩ := C_cells hr (by omega)
  have hcell0 := hcells p hp
  clear hcells
  obtain ⟨k, hk⟩ : ∃ k, b.getD p 0 = k := ⟨_, rfl⟩
  rw [hk] at hcell0 hway
  clear hk
  subst hway
  obtain ⟨A2, hcut, h2, hc2⟩ := cutFrom (P := Try.prog) 26 5 Try.underlying26 info_u8 .u8 (some ad) c b ((p : Int) + 1) (by omega) (by omega) hc
  rw [show ((p : Int) + 1).toNat = p + 1 from by omega] at hcut h2 hc2
  have hread := fun W h => stepsC A2 (c - (p + 1)) (b.drop (p + 1)) n W (h2 W h) hc2 (hb.drop _) hn (by rw [List.length_drop]; omega)
  rw [hT] at hread
  have HD := Aside0.mk hread
  clear hread h2 hc2 hT
  obtain ⟨D, hD⟩ : ∃ D, b.drop (p + 1) = D := ⟨_, rfl⟩
  rw [hD] at HD hcut
  clear hD
  have hne : Aside0 (((strOfNums (put x)).toList == (strOfNums b).toList) = false) := ⟨by rw [beq_eq_false_iff_ne]; exact fun h => hput (str_inj (put_Bytes x) hb h)⟩
  clear hput
  have hpI : (p : Int) < (b.length : Int) := by omega
  have hp1 : ((p : Int) == 0) = false := beq_eq_false_iff_ne.mpr (by omega)
  have HR := Aside0.mk hr
  have hb2 := Aside0.mk hb
  clear hr hb
  have hwr : wrap64 (n : Int) = (n : Int) := wrap64_id (by omega) (by omega)
  go_enter Try.func14, Try.ntmps14
  go_wp2_with (fail)
  refine (HV.out _ HR.out).mono ?_; rintro e w1 ⟨rfl, ⟨nd, rfl⟩⟩
  have HR1 := Aside0.mk (Kd.C_drewN HR.out nd)
  have HB1 := Aside0.mk (pw_below_drewN (Below.refl w.heap.size w) nd)
  have hcell := (show (w.drewN nd).cell? (ad.add p) = some (.int .u8 1) from hcell0)
  clear HV HR hcell0
  generalize w.drewN nd = w1 at *
  go_wp2_with (fail)
  refine (HD.out _ HR1.out).mono ?_; rintro e w2 ⟨v, rfl, ho, hb⟩
  obtain ⟨Ax, cx, rfl, lx, ho⟩ := R_C ho
  simp only [Option.map_some, Option.getD_some] at ho lx ⊢
  replace HR1 := Aside0.mk (Kd.C_below HR1.out hb)
  have HB2 := Aside0.mk (below_step HB1.out hb)
  have HX := Aside0.mk ho
  clear ho hb HD HB1
  go_wp2_with (fail)
  (with_reducible refine (putInts Ax cx x _ HX.out lx (by omega)).mono ?_); rintro e w3 ⟨v, rfl, ho, hb⟩
  obtain ⟨Ap, cp, rfl, lp, ho⟩ := R_C ho
  have HE := Aside0.mk (Try.bytes_Equal_strs (.slice Ap (put x).length cp) (.slice (some ad) b.length c) (strOfNums (put x)) (strOfNums b) w3 (toStr1 cp Try.underlying26 Try.underlying5 Try.underlying9 ho) (toStr1 c Try.underlying26 Try.underlying5 Try.underlying9 (Kd.C_below HR1.out hb)))
  replace HB2 := Aside0.mk (below_step HB2.out hb)
  replace HX := Aside0.mk (Kd.C_below HX.out hb)
  clear ho hb
  go_wp2_with (fail)
  refine (HE.out).mono ?_; rintro e w4 ⟨rfl, hw⟩
  obtain rfl : w3 = w4 := hw.symm
  rw [hne.out]
  go_wp2_with (fail)
  go_ret2
  exact ⟨rfl, HB2.out⟩

set_option maxHeartbeats 8000000 in
set_option maxRecDepth 100000 in
theorem steps_good (A : Option Addr) (c : Nat) (b : List Int) (w : World) (hr : Kd.C (Kd.int .u8) w A b.length b) (hc : b.length ≤ c) (hb : Bytes b) (hl : b.length < 1000000000) (n p : Nat) (hv : var b = ((n : Int), (p : Int))) (h0 : 1 ≤ p) (hn : n ≤ 2000) (hp : p < b.length)
    (hway : b.getD p 0 = 1) (x r : List Int) (hT : stepsR (b.drop (p + 1)) n 0 = some (x, r)) (hx : x.length ≤ 2000) (hput : put x = b) :
    Calls Try.prog 14 #[.slice A b.length c] w fun e w' => ∃ A' c', e = .returned (.tuple #[.slice A' x.length c', .int .i64 0]) ∧ x.length ≤ c' ∧ Kd.C (Kd.int .i64) w' A' x.length x ∧ Below w.heap.size w w' := by
  have hvc := fun W h => varC A c b W h hc hb (by omega)
  rw [hv] at hvc
  have HV := Aside0.mk hvc
  clear hvc hv
  obtain ⟨ad, rfl, hcells⟩ := C_cells hr (by omega)
  have hcell0 := hcells p hp
  clear hcells
  obtain ⟨k, hk⟩ : ∃ k, b.getD p 0 = k := ⟨_, rfl⟩
  rw [hk] at hcell0 hway
  clear hk
  subst hway
  obtain ⟨A2, hcut, h2, hc2⟩ := cutFrom (P := Try.prog) 26 5 Try.underlying26 info_u8 .u8 (some ad) c b ((p : Int) + 1) (by omega) (by omega) hc
  rw [show ((p : Int) + 1).toNat = p + 1 from by omega] at hcut h2 hc2
  have hread := fun W h => stepsC A2 (c - (p + 1)) (b.drop (p + 1)) n W (h2 W h) hc2 (hb.drop _) hn (by rw [List.length_drop]; omega)
  rw [hT] at hread
  have HD := Aside0.mk hread
  clear hread h2 hc2 hT
  obtain ⟨D, hD⟩ : ∃ D, b.drop (p + 1) = D := ⟨_, rfl⟩
  rw [hD] at HD hcut
  clear hD
  have HP := Aside0.mk hput
  clear hput
  have hpI : (p : Int) < (b.length : Int) := by omega
  have hp1 : ((p : Int) == 0) = false := beq_eq_false_iff_ne.mpr (by omega)
  have HR := Aside0.mk hr
  have hb2 := Aside0.mk hb
  clear hr hb
  have hwr : wrap64 (n : Int) = (n : Int) := wrap64_id (by omega) (by omega)
  go_enter Try.func14, Try.ntmps14
  go_wp2_with (fail)
  refine (HV.out _ HR.out).mono ?_; rintro e w1 ⟨rfl, ⟨nd, rfl⟩⟩
  have HR1 := Aside0.mk (Kd.C_drewN HR.out nd)
  have HB1 := Aside0.mk (pw_below_drewN (Below.refl w.heap.size w) nd)
  have hcell := (show (w.drewN nd).cell? (ad.add p) = some (.int .u8 1) from hcell0)
  clear HV HR hcell0
  generalize w.drewN nd = w1 at *
  go_wp2_with (fail)
  refine (HD.out _ HR1.out).mono ?_; rintro e w2 ⟨v, rfl, ho, hb⟩
  obtain ⟨Ax, cx, rfl, lx, ho⟩ := R_C ho
  simp only [Option.map_some, Option.getD_some] at ho lx ⊢
  replace HR1 := Aside0.mk (Kd.C_below HR1.out hb)
  have HB2 := Aside0.mk (below_step HB1.out hb)
  have HX := Aside0.mk ho
  clear ho hb HD HB1
  go_wp2_with (fail)
  (with_reducible refine (putInts Ax cx x _ HX.out lx (by omega)).mono ?_); rintro e w3 ⟨v, rfl, ho, hb⟩
  obtain ⟨Ap, cp, rfl, lp, ho⟩ := R_C ho
  have HE := Aside0.mk (Try.bytes_Equal_strs (.slice Ap (put x).length cp) (.slice (some ad) b.length c) (strOfNums (put x)) (strOfNums b) w3 (toStr1 cp Try.underlying26 Try.underlying5 Try.underlying9 ho) (toStr1 c Try.underlying26 Try.underlying5 Try.underlying9 (Kd.C_below HR1.out hb)))
  replace HB2 := Aside0.mk (below_step HB2.out hb)
  replace HX := Aside0.mk (Kd.C_below HX.out hb)
  clear ho hb
  go_wp2_with (fail)
  refine (HE.out).mono ?_; rintro e w4 ⟨rfl, hw⟩
  obtain rfl : w3 = w4 := hw.symm
  rw [HP.out, beq_self_eq_true]
  go_wp2_with (fail)
  go_ret2
  exact ⟨Ax, cx, rfl, lx, HX.out, HB2.out⟩

set_option maxHeartbeats 8000000 in
set_option maxRecDepth 100000 in
theorem wide_bad (A : Option Addr) (c : Nat) (b : List Int) (w : World) (hr : Kd.C (Kd.int .u8) w A b.length b) (hc : b.length ≤ c) (hb : Bytes b) (hl : b.length < 1000000000) (n p : Nat) (hv : var b = ((n : Int), (p : Int))) (h0 : 1 ≤ p) (hn : n ≤ 2000) (hp : p < b.length)
    (hway : b.getD p 0 ≠ 1) (hT : wideR (b.drop (p + 1)) n = none) :
    Calls Try.prog 14 #[.slice A b.length c] w fun e w' => e = .returned (.tuple #[.slice none 0 0, .int .i64 10]) ∧ Below w.heap.size w w' := by
  have hvc := fun W h => varC A c b W h hc hb (by omega)
  rw [hv] at hvc
  have HV := Aside0.mk hvc
  clear hvc hv
  obtain ⟨ad, rfl, hcells⟩ := C_cells hr (by omega)
  have hcell0 := hcells p hp
  clear hcells
  obtain ⟨k, hk⟩ : ∃ k, b.getD p 0 = k := ⟨_, rfl⟩
  rw [hk] at hcell0 hway
  clear hk
  have hway1 : (k == 1) = false := beq_eq_false_iff_ne.mpr hway
  obtain ⟨A2, hcut, h2, hc2⟩ := cutFrom (P := Try.prog) 26 5 Try.underlying26 info_u8 .u8 (some ad) c b ((p : Int) + 1) (by omega) (by omega) hc
  rw [show ((p : Int) + 1).toNat = p + 1 from by omega] at hcut h2 hc2
  have hread := fun W h => wideC A2 (c - (p + 1)) (b.drop (p + 1)) n W (h2 W h) hc2 (hb.drop _) hn
  rw [hT] at hread
  have HD := Aside0.mk hread
  clear hread h2 hc2 hT
  obtain ⟨D, hD⟩ : ∃ D, b.drop (p + 1) = D := ⟨_, rfl⟩
  rw [hD] at HD hcut
  clear hD
  have hpI : (p : Int) < (b.length : Int) := by omega
  have hp1 : ((p : Int) == 0) = false := beq_eq_false_iff_ne.mpr (by omega)
  have HR := Aside0.mk hr
  have hb2 := Aside0.mk hb
  clear hr hb
  have hwr : wrap64 (n : Int) = (n : Int) := wrap64_id (by omega) (by omega)
  go_enter Try.func14, Try.ntmps14
  go_wp2_with (fail)
  refine (HV.out _ HR.out).mono ?_; rintro e w1 ⟨rfl, ⟨nd, rfl⟩⟩
  have HR1 := Aside0.mk (Kd.C_drewN HR.out nd)
  have HB1 := Aside0.mk (pw_below_drewN (Below.refl w.heap.size w) nd)
  have hcell := (show (w.drewN nd).cell? (ad.add p) = some (.int .u8 k) from hcell0)
  clear HV HR hcell0
  generalize w.drewN nd = w1 at *
  go_wp2_with (fail)
  refine (HD.out _ HR1.out).mono ?_; rintro e w2 ⟨v, rfl, ho, hb⟩
  have HB2 := Aside0.mk (below_step HB1.out hb)
  clear ho hb HD
  go_wp2_with (fail)
  go_ret2
  exact ⟨rfl, HB2.out⟩

set_option maxHeartbeats 8000000 in
set_option maxRecDepth 100000 in
theorem wide_other (A : Option Addr) (c : Nat) (b : List Int) (w : World) (hr : Kd.C (Kd.int .u8) w A b.length b) (hc : b.length ≤ c) (hb : Bytes b) (hl : b.length < 1000000000) (n p : Nat) (hv : var b = ((n : Int), (p : Int))) (h0 : 1 ≤ p) (hn : n ≤ 2000) (hp : p < b.length)
    (hway : b.getD p 0 ≠ 1) (x r : List Int) (hT : wideR (b.drop (p + 1)) n = some (x, r)) (hx : x.length ≤ 2000) (hput : put x ≠ b) :
    Calls Try.prog 14 #[.slice A b.length c] w fun e w' => e = .returned (.tuple #[.slice none 0 0, .int .i64 10]) ∧ Below w.heap.size w w' := by
  have hvc := fun W h => varC A c b W h hc hb (by omega)
  rw [hv] at hvc
  have HV := Aside0.mk hvc
  clear hvc hv
  obtain ⟨ad, rfl, hcells⟩ := C_cells hr (by omega)
  have hcell0 := hcells p hp
  clear hcells
  obtain ⟨k, hk⟩ : ∃ k, b.getD p 0 = k := ⟨_, rfl⟩
  rw [hk] at hcell0 hway
  clear hk
  have hway1 : (k == 1) = false := beq_eq_false_iff_ne.mpr hway
  obtain ⟨A2, hcut, h2, hc2⟩ := cutFrom (P := Try.prog) 26 5 Try.underlying26 info_u8 .u8 (some ad) c b ((p : Int) + 1) (by omega) (by omega) hc
  rw [show ((p : Int) + 1).toNat = p + 1 from by omega] at hcut h2 hc2
  have hread := fun W h => wideC A2 (c - (p + 1)) (b.drop (p + 1)) n W (h2 W h) hc2 (hb.drop _) hn
  rw [hT] at hread
  have HD := Aside0.mk hread
  clear hread h2 hc2 hT
  obtain ⟨D, hD⟩ : ∃ D, b.drop (p + 1) = D := ⟨_, rfl⟩
  rw [hD] at HD hcut
  clear hD
  have hne : Aside0 (((strOfNums (put x)).toList == (strOfNums b).toList) = false) := ⟨by rw [beq_eq_false_iff_ne]; exact fun h => hput (str_inj (put_Bytes x) hb h)⟩
  clear hput
  have hpI : (p : Int) < (b.length : Int) := by omega
  have hp1 : ((p : Int) == 0) = false := beq_eq_false_iff_ne.mpr (by omega)
  have HR := Aside0.mk hr
  have hb2 := Aside0.mk hb
  clear hr hb
  have hwr : wrap64 (n : Int) = (n : Int) := wrap64_id (by omega) (by omega)
  go_enter Try.func14, Try.ntmps14
  go_wp2_with (fail)
  refine (HV.out _ HR.out).mono ?_; rintro e w1 ⟨rfl, ⟨nd, rfl⟩⟩
  have HR1 := Aside0.mk (Kd.C_drewN HR.out nd)
  have HB1 := Aside0.mk (pw_below_drewN (Below.refl w.heap.size w) nd)
  have hcell := (show (w.drewN nd).cell? (ad.add p) = some (.int .u8 k) from hcell0)
  clear HV HR hcell0
  generalize w.drewN nd = w1 at *
  go_wp2_with (fail)
  refine (HD.out _ HR1.out).mono ?_; rintro e w2 ⟨v, rfl, ho, hb⟩
  obtain ⟨Ax, cx, rfl, lx, ho⟩ := R_C ho
  simp only [Option.map_some, Option.getD_some] at ho lx ⊢
  replace HR1 := Aside0.mk (Kd.C_below HR1.out hb)
  have HB2 := Aside0.mk (below_step HB1.out hb)
  have HX := Aside0.mk ho
  clear ho hb HD HB1
  go_wp2_with (fail)
  (with_reducible refine (putInts Ax cx x _ HX.out lx (by omega)).mono ?_); rintro e w3 ⟨v, rfl, ho, hb⟩
  obtain ⟨Ap, cp, rfl, lp, ho⟩ := R_C ho
  have HE := Aside0.mk (Try.bytes_Equal_strs (.slice Ap (put x).length cp) (.slice (some ad) b.length c) (strOfNums (put x)) (strOfNums b) w3 (toStr1 cp Try.underlying26 Try.underlying5 Try.underlying9 ho) (toStr1 c Try.underlying26 Try.underlying5 Try.underlying9 (Kd.C_below HR1.out hb)))
  replace HB2 := Aside0.mk (below_step HB2.out hb)
  replace HX := Aside0.mk (Kd.C_below HX.out hb)
  clear ho hb
  go_wp2_with (fail)
  refine (HE.out).mono ?_; rintro e w4 ⟨rfl, hw⟩
  obtain rfl : w3 = w4 := hw.symm
  rw [hne.out]
  go_wp2_with (fail)
  go_ret2
  exact ⟨rfl, HB2.out⟩

set_option maxHeartbeats 8000000 in
set_option maxRecDepth 100000 in
theorem wide_good (A : Option Addr) (c : Nat) (b : List Int) (w : World) (hr : Kd.C (Kd.int .u8) w A b.length b) (hc : b.length ≤ c) (hb : Bytes b) (hl : b.length < 1000000000) (n p : Nat) (hv : var b = ((n : Int), (p : Int))) (h0 : 1 ≤ p) (hn : n ≤ 2000) (hp : p < b.length)
    (hway : b.getD p 0 ≠ 1) (x r : List Int) (hT : wideR (b.drop (p + 1)) n = some (x, r)) (hx : x.length ≤ 2000) (hput : put x = b) :
    Calls Try.prog 14 #[.slice A b.length c] w fun e w' => ∃ A' c', e = .returned (.tuple #[.slice A' x.length c', .int .i64 0]) ∧ x.length ≤ c' ∧ Kd.C (Kd.int .i64) w' A' x.length x ∧ Below w.heap.size w w' := by
  have hvc := fun W h => varC A c b W h hc hb (by omega)
  rw [hv] at hvc
  have HV := Aside0.mk hvc
  clear hvc hv
  obtain ⟨ad, rfl, hcells⟩ := C_cells hr (by omega)
  have hcell0 := hcells p hp
  clear hcells
  obtain ⟨k, hk⟩ : ∃ k, b.getD p 0 = k := ⟨_, rfl⟩
  rw [hk] at hcell0 hway
  clear hk
  have hway1 : (k == 1) = false := beq_eq_false_iff_ne.mpr hway
  obtain ⟨A2, hcut, h2, hc2⟩ := cutFrom (P := Try.prog) 26 5 Try.underlying26 info_u8 .u8 (some ad) c b ((p : Int) + 1) (by omega) (by omega) hc
  rw [show ((p : Int) + 1).toNat = p + 1 from by omega] at hcut h2 hc2
  have hread := fun W h => wideC A2 (c - (p + 1)) (b.drop (p + 1)) n W (h2 W h) hc2 (hb.drop _) hn
  rw [hT] at hread
  have HD := Aside0.mk hread
  clear hread h2 hc2 hT
  obtain ⟨D, hD⟩ : ∃ D, b.drop (p + 1) = D := ⟨_, rfl⟩
  rw [hD] at HD hcut
  clear hD
  have HP := Aside0.mk hput
  clear hput
  have hpI : (p : Int) < (b.length : Int) := by omega
  have hp1 : ((p : Int) == 0) = false := beq_eq_false_iff_ne.mpr (by omega)
  have HR := Aside0.mk hr
  have hb2 := Aside0.mk hb
  clear hr hb
  have hwr : wrap64 (n : Int) = (n : Int) := wrap64_id (by omega) (by omega)
  go_enter Try.func14, Try.ntmps14
  go_wp2_with (fail)
  refine (HV.out _ HR.out).mono ?_; rintro e w1 ⟨rfl, ⟨nd, rfl⟩⟩
  have HR1 := Aside0.mk (Kd.C_drewN HR.out nd)
  have HB1 := Aside0.mk (pw_below_drewN (Below.refl w.heap.size w) nd)
  have hcell := (show (w.drewN nd).cell? (ad.add p) = some (.int .u8 k) from hcell0)
  clear HV HR hcell0
  generalize w.drewN nd = w1 at *
  go_wp2_with (fail)
  refine (HD.out _ HR1.out).mono ?_; rintro e w2 ⟨v, rfl, ho, hb⟩
  obtain ⟨Ax, cx, rfl, lx, ho⟩ := R_C ho
  simp only [Option.map_some, Option.getD_some] at ho lx ⊢
  replace HR1 := Aside0.mk (Kd.C_below HR1.out hb)
  have HB2 := Aside0.mk (below_step HB1.out hb)
  have HX := Aside0.mk ho
  clear ho hb HD HB1
  go_wp2_with (fail)
  (with_reducible refine (putInts Ax cx x _ HX.out lx (by omega)).mono ?_); rintro e w3 ⟨v, rfl, ho, hb⟩
  obtain ⟨Ap, cp, rfl, lp, ho⟩ := R_C ho
  have HE := Aside0.mk (Try.bytes_Equal_strs (.slice Ap (put x).length cp) (.slice (some ad) b.length c) (strOfNums (put x)) (strOfNums b) w3 (toStr1 cp Try.underlying26 Try.underlying5 Try.underlying9 ho) (toStr1 c Try.underlying26 Try.underlying5 Try.underlying9 (Kd.C_below HR1.out hb)))
  replace HB2 := Aside0.mk (below_step HB2.out hb)
  replace HX := Aside0.mk (Kd.C_below HX.out hb)
  clear ho hb
  go_wp2_with (fail)
  refine (HE.out).mono ?_; rintro e w4 ⟨rfl, hw⟩
  obtain rfl : w3 = w4 := hw.symm
  rw [HP.out, beq_self_eq_true]
  go_wp2_with (fail)
  go_ret2
  exact ⟨Ax, cx, rfl, lx, HX.out, HB2.out⟩


end Go.Proofs.Ytlhimfkhcdpciaa.CTake
