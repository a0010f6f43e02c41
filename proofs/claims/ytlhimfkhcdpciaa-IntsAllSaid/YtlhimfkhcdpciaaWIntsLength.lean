/- The walk of the law IntsLength. -/
import Derived.Test.YtlhimfkhcdpciaaCInts
import Derived.Test.YtlhimfkhcdpciaaHold
namespace Go.Proofs.Ytlhimfkhcdpciaa.WIntsLength
open Go.RowKit Go.Proofs.YtlhimfkhcdpciaaW.PrintWords Go.Proofs.YtlhimfkhcdpciaaW.PrintLast Go.Proofs.YtlhimfkhcdpciaaW.PrintMore Go.Proofs.Ytlhimfkhcdpciaa.Num Go.Proofs.Ytlhimfkhcdpciaa.Bits Go.Proofs.Ytlhimfkhcdpciaa.Ints Go.Proofs.Ytlhimfkhcdpciaa.CInts Go.Proofs.Ytlhimfkhcdpciaa.Hold
set_option linter.unusedVariables false
set_option linter.unusedSimpArgs false
attribute [local go_sem] max2_int min2_int max_two min_two max_three min_three max_four min_four

theorem info_i64 : (Try.prog.info? 2).map (fun i => (i.zero, i.size, i.bytes)) = some (some (.int .i64 0), 1, 8) := by kernel_rfl
theorem info_u8 : (Try.prog.info? 5).map (fun i => (i.zero, i.size, i.bytes)) = some (some (.int .u8 0), 1, 1) := by kernel_rfl
set_option maxHeartbeats 8000000 in
set_option maxRecDepth 100000 in
theorem few (A : Option Addr) (c : Nat) (l : List Int) (w : World) (hc : l.length ≤ c) (hm : l.length ≤ 9223372036854775807) :
    Calls Try.prog 12 #[.slice A l.length c] w fun e w' => e = .returned (.slice A (l.take 60).length c) ∧ w = w' := by
  by_cases h : (l.length : Int) > 60
  · have hcut := cutTo (P := Try.prog) 25 2 Try.underlying25 info_i64 A l.length c 60 (by omega) (by omega) hc
    have e : (l.take 60).length = 60 := by rw [List.length_take]; omega
    rw [e]
    clear e
    go_enter Try.func12, Try.ntmps12
    go_wp2
    go_ret
    exact ⟨rfl, rfl⟩
  · have e : l.take 60 = l := List.take_of_length_le (by omega)
    rw [e]
    clear e
    go_enter Try.func12, Try.ntmps12
    go_wp2
    go_ret
    exact ⟨rfl, rfl⟩

set_option maxHeartbeats 8000000 in
set_option maxRecDepth 100000 in
theorem short_ (A : Option Addr) (c : Nat) (l m : List Int) (w : World) (HB : Aside0 (Below w.heap.size w w)) (HR : Aside0 (Kd.C (Kd.int .i64) w A m.length m)) (hcm : m.length ≤ c) (hn : m.length ≤ 60)
    (hfew : ∀ W, Calls Try.prog 12 #[.slice A l.length c] W fun e w' => e = .returned (.slice A m.length c) ∧ W = w')
    (hd : decide ((dl 0 m).length < (fx m).length) = true) (hput : put m = (m.length : Int) :: 1 :: dl 0 m) :
    Calls Try.prog 4 #[.slice A l.length c] w fun e w' => e = .returned (.bool true) ∧ Below w.heap.size w w' := by
  have HF := Aside0.mk hfew
  clear hfew
  have HP := Aside0.mk hput
  clear hput
  go_enter Try.func4, Try.ntmps4
  go_wp2_with (fail)
  (with_reducible refine (shown _).mono ?_); rintro e w1 ⟨rfl, hb⟩
  replace HB := Aside0.mk (below_step HB.out hb); replace HR := Aside0.mk (Kd.C_below HR.out hb); clear hb
  go_wp2_with (fail)
  refine (HF.out _).mono ?_; rintro e w2 ⟨rfl, rfl⟩
  clear HF
  go_wp2_with (fail)
  (with_reducible refine (putInts A c m _ HR.out hcm (by omega)).mono ?_); rintro e w2 ⟨v, rfl, ho, hb⟩
  obtain ⟨Ab, cb, rfl, lb, ho⟩ := R_C ho
  replace HB := Aside0.mk (below_step HB.out hb); replace HR := Aside0.mk (Kd.C_below HR.out hb); have HRb := Aside0.mk ho; clear hb ho
  go_wp2_with (fail)
  (with_reducible refine (delta A c m _ HR.out hcm (by omega)).mono ?_); rintro e w3 ⟨v, rfl, ho, hb⟩
  obtain ⟨Ad, cd, rfl, ld, ho⟩ := R_C ho
  replace HB := Aside0.mk (below_step HB.out hb); replace HR := Aside0.mk (Kd.C_below HR.out hb); replace HRb := Aside0.mk (Kd.C_below HRb.out hb); have HRd := Aside0.mk ho; clear hb ho
  go_wp2_with (fail)
  (with_reducible refine (fixed A c m _ HR.out hcm (by omega)).mono ?_); rintro e w4 ⟨v, rfl, ho, hb⟩
  obtain ⟨Af, cf, rfl, lf, ho⟩ := R_C ho
  replace HB := Aside0.mk (below_step HB.out hb); replace HRb := Aside0.mk (Kd.C_below HRb.out hb); replace HRd := Aside0.mk (Kd.C_below HRd.out hb); have HRf := Aside0.mk ho; clear hb ho HR
  have hl2 : 2 ≤ (put m).length := by rw [HP.out]; simp
  obtain ⟨adb, rfl, hcells⟩ := C_cells HRb.out (by omega)
  have c0 : w4.cell? adb = some (.int .u8 m.length) := by
    have h := cells0 hcells (by omega)
    rw [HP.out] at h
    exact h
  have c1 : w4.cell? ⟨adb.block, adb.off + 1, none⟩ = some (.int .u8 1) := by
    have h := hcells 1 (by omega)
    rw [HP.out] at h
    exact h
  clear hcells
  obtain ⟨A2, hcut, h2, _⟩ := cutFrom (P := Try.prog) 26 5 Try.underlying26 info_u8 .u8 (some adb) cb _ 2 (by omega) (by omega) lb
  have h3 := h2 _ HRb.out
  rw [show (put m).drop (2 : Int).toNat = dl 0 m from by rw [HP.out]; rfl] at h3 hcut
  clear h2 HRb
  have hs2 := toStr (P := Try.prog) (cb - 2) Try.underlying26 Try.underlying5 Try.underlying9 h3
  have hsd := toStr (P := Try.prog) cd Try.underlying26 Try.underlying5 Try.underlying9 HRd.out
  clear h3 HP
  have hd1 : decide (((put m).length : Int) < 2) = false := decide_eq_false (by omega)
  have hi1 : (1 : Int) < ((put m).length : Int) := by omega
  generalize put m = B at *
  go_wp2_with (fail)
  go_quiet (fail)
  go_wp2_with (fail)
  go_ret
  exact ⟨rfl, pw_below_drewN HB.out _⟩

set_option maxHeartbeats 8000000 in
set_option maxRecDepth 100000 in
theorem plain_ (A : Option Addr) (c : Nat) (l m : List Int) (w : World) (HB : Aside0 (Below w.heap.size w w)) (HR : Aside0 (Kd.C (Kd.int .i64) w A m.length m)) (hcm : m.length ≤ c) (hn : m.length ≤ 60)
    (hfew : ∀ W, Calls Try.prog 12 #[.slice A l.length c] W fun e w' => e = .returned (.slice A m.length c) ∧ W = w')
    (hd : decide ((dl 0 m).length < (fx m).length) = false) (hput : put m = (m.length : Int) :: 0 :: fx m) :
    Calls Try.prog 4 #[.slice A l.length c] w fun e w' => e = .returned (.bool true) ∧ Below w.heap.size w w' := by
  have HF := Aside0.mk hfew
  clear hfew
  have HP := Aside0.mk hput
  clear hput
  go_enter Try.func4, Try.ntmps4
  go_wp2_with (fail)
  (with_reducible refine (shown _).mono ?_); rintro e w1 ⟨rfl, hb⟩
  replace HB := Aside0.mk (below_step HB.out hb); replace HR := Aside0.mk (Kd.C_below HR.out hb); clear hb
  go_wp2_with (fail)
  refine (HF.out _).mono ?_; rintro e w2 ⟨rfl, rfl⟩
  clear HF
  go_wp2_with (fail)
  (with_reducible refine (putInts A c m _ HR.out hcm (by omega)).mono ?_); rintro e w2 ⟨v, rfl, ho, hb⟩
  obtain ⟨Ab, cb, rfl, lb, ho⟩ := R_C ho
  replace HB := Aside0.mk (below_step HB.out hb); replace HR := Aside0.mk (Kd.C_below HR.out hb); have HRb := Aside0.mk ho; clear hb ho
  go_wp2_with (fail)
  (with_reducible refine (delta A c m _ HR.out hcm (by omega)).mono ?_); rintro e w3 ⟨v, rfl, ho, hb⟩
  obtain ⟨Ad, cd, rfl, ld, ho⟩ := R_C ho
  replace HB := Aside0.mk (below_step HB.out hb); replace HR := Aside0.mk (Kd.C_below HR.out hb); replace HRb := Aside0.mk (Kd.C_below HRb.out hb); have HRd := Aside0.mk ho; clear hb ho
  go_wp2_with (fail)
  (with_reducible refine (fixed A c m _ HR.out hcm (by omega)).mono ?_); rintro e w4 ⟨v, rfl, ho, hb⟩
  obtain ⟨Af, cf, rfl, lf, ho⟩ := R_C ho
  replace HB := Aside0.mk (below_step HB.out hb); replace HRb := Aside0.mk (Kd.C_below HRb.out hb); replace HRd := Aside0.mk (Kd.C_below HRd.out hb); have HRf := Aside0.mk ho; clear hb ho HR
  have hl2 : 2 ≤ (put m).length := by rw [HP.out]; simp
  obtain ⟨adb, rfl, hcells⟩ := C_cells HRb.out (by omega)
  have c0 : w4.cell? adb = some (.int .u8 m.length) := by
    have h := cells0 hcells (by omega)
    rw [HP.out] at h
    exact h
  have c1 : w4.cell? ⟨adb.block, adb.off + 1, none⟩ = some (.int .u8 0) := by
    have h := hcells 1 (by omega)
    rw [HP.out] at h
    exact h
  clear hcells
  obtain ⟨A2, hcut, h2, _⟩ := cutFrom (P := Try.prog) 26 5 Try.underlying26 info_u8 .u8 (some adb) cb _ 2 (by omega) (by omega) lb
  have h3 := h2 _ HRb.out
  rw [show (put m).drop (2 : Int).toNat = fx m from by rw [HP.out]; rfl] at h3 hcut
  clear h2 HRb
  have hs2 := toStr (P := Try.prog) (cb - 2) Try.underlying26 Try.underlying5 Try.underlying9 h3
  have hsd := toStr (P := Try.prog) cf Try.underlying26 Try.underlying5 Try.underlying9 HRf.out
  clear h3 HP
  have hd1 : decide (((put m).length : Int) < 2) = false := decide_eq_false (by omega)
  have hi1 : (1 : Int) < ((put m).length : Int) := by omega
  generalize put m = B at *
  go_wp2_with (fail)
  go_quiet (fail)
  go_wp2_with (fail)
  go_ret
  exact ⟨rfl, pw_below_drewN HB.out _⟩

theorem walk (A : Option Addr) (c : Nat) (l : List Int) (w : World) (hr : Kd.C (Kd.int .i64) w A l.length l) (hc : l.length ≤ c) (_hw : ∀ n ∈ l, (Lit.int .i64 n).wf = true) (hy : l.length * 8 ≤ 140737488351232) :
    Calls Try.prog 4 #[.slice A l.length c] w fun e w' => e = .returned (.bool true) ∧ Below w.heap.size w w' := by
  have HR := Aside0.mk (C_take_any 60 hr)
  have HB := Aside0.mk (Below.refl w.heap.size w)
  have hfew : ∀ W, Calls Try.prog 12 #[.slice A l.length c] W fun e w' => e = .returned (.slice A (l.take 60).length c) ∧ W = w' := fun W => few A c l W hc (by omega)
  have hn : (l.take 60).length ≤ 60 := by rw [List.length_take]; omega
  have hcm : (l.take 60).length ≤ c := by rw [List.length_take]; omega
  generalize l.take 60 = m at HR hfew hn hcm
  have e := fx_length m
  by_cases h : (dl 0 m).length < (fx m).length
  · exact short_ A c l m w HB HR hcm hn hfew (decide_eq_true h) (by unfold put; rw [if_neg (by omega), pv_small (by omega)]; rfl)
  · exact plain_ A c l m w HB HR hcm hn hfew (decide_eq_false h) (by unfold put; rw [if_pos (by omega), pv_small (by omega)]; rfl)

end Go.Proofs.Ytlhimfkhcdpciaa.WIntsLength
