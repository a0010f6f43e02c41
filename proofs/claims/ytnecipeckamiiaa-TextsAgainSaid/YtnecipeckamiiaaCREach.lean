/-
  The contract of the texts reference's Each.
-/
import Derived.Test.YtnecipeckamiiaaCEach
import Derived.Test.YtnecipeckamiiaaRVar
namespace Go.Proofs.Ytnecipeckamiiaa.CREach
open Go.RowKit Go.Proofs.Ytnecipeckamiiaa.CEach Go.Proofs.Ytnecipeckamiiaa.RVar Go.Proofs.Ytnecipeckamiiaa.QTextsAll Go.Proofs.YtnecipeckamiiaaW.PrintWords Go.Proofs.YtnecipeckamiiaaW.PrintLast Go.Proofs.YtnecipeckamiiaaW.PrintMore Go.Proofs.Ytnecipeckamiiaa.Num Go.Proofs.Ytnecipeckamiiaa.Bits Go.Proofs.Ytnecipeckamiiaa.VarM Go.Proofs.Ytnecipeckamiiaa.TextsT Go.Proofs.Ytnecipeckamiiaa.Hold Go.Proofs.Ytnecipeckamiiaa.HoldS
set_option linter.unusedVariables false
set_option linter.unusedSimpArgs false
attribute [local go_sem] max2_int min2_int max_two min_two max_three min_three max_four min_four

set_option maxHeartbeats 8000000 in
set_option maxRecDepth 100000 in
theorem refEach (A : Option Addr) (c : Nat) (l : List ByteArray) (w : World) (hr : Kd.C Kd.string w A l.length l) (hc : l.length ≤ c) (hl : l.length ≤ 2000) (hs : ∀ s ∈ l, s.size ≤ 1000) :
    Calls Try.prog 17 #[.slice A l.length c] w fun e w' => ∃ v, e = .returned v ∧ Kd.R (Kd.int .u8) 5 w' w.heap.size (fun _ => True) v (each l) ∧ Below w.heap.size w w' := by
  have HR := Aside0.mk hr
  have HS := Aside0.mk hs
  clear hr hs
  go_enter Try.func17, Try.ntmps17
  go_wp2_with (fail)
  go_loopw [3, 4] (fun v3 v8 wr => ∃ i : Nat, v8 = .int .i64 i ∧ i ≤ l.length ∧ Aside0 (Kd.R (Kd.int .u8) 5 wr w.heap.size (fun _ => True) v3 (each (l.take i))) ∧ Aside0 (Below w.heap.size w wr)) (fun _ v8 _ => l.length - (intOf v8).toNat)
  case atStart => exact ⟨0, by go_num, by omega, ⟨by simpa [each] using R_empty 5 w⟩, ⟨below_alloc (Below.refl _ _) _⟩⟩
  case round =>
    obtain ⟨i, rfl, hil, HO, HB⟩ := hrel
    by_cases hi : i < l.length
    · obtain ⟨ad, rfl, hcell⟩ := Kd.at_string HR.out (i : Int) (by omega) (by omega)
      have hiI : (i : Int) < (l.length : Int) := by omega
      have hi0 : (0 : Int) ≤ (i : Int) := by omega
      obtain ⟨s, hsx⟩ : ∃ s, rdOf ByteArray.empty l (i : Int) = s := ⟨_, rfl⟩
      have hs1 : s.size ≤ 1000 := by
        rw [← hsx, rdOf, Int.toNat_natCast, List.getD_eq_getElem?_getD, List.getElem?_eq_getElem hi]
        exact HS.out _ (List.getElem_mem hi)
      have hsn := Aside0.mk (each_snoc l i hi)
      rw [hsx] at hcell hsn
      rw [Int.toNat_natCast] at hcell
      clear hsx
      have hEl : (each (l.take i)).length ≤ 2020000 := by
        have := each_le (l.take i) 1000 (fun x hx => HS.out x (List.mem_of_mem_take hx)) (by decide)
        have h2 : (l.take i).length ≤ 2000 := by rw [List.length_take]; omega
        have h3 := Nat.mul_le_mul_right (1000 + 10) h2
        omega
      have hEl2 := Aside0.mk hEl
      have hpl := Aside0.mk (pv_le10 s.size (by omega))
      obtain ⟨P, hPe⟩ : ∃ P, pv s.size = P := ⟨_, rfl⟩
      rw [hPe] at hsn hpl
      replace hPe := Aside0.mk hPe
      have hwr : wrap64 ((i : Int) + 1) = ((i + 1 : Nat) : Int) := by rw [wrap64_id (by omega) (by omega)]; rfl
      have hwu : IntKind.u64.wrap (s.size : Int) = (s.size : Int) := wrap_u64_id (by omega) (by omega)
      generalize each (l.take i) = E at HO hsn hEl2
      clear hEl
      have hcell2 := Aside0.mk hcell
      replace hcell := pw_cell_below HB.out hcell
      have hcell3 := Aside0.mk hcell
      clear hcell
      go_wp2_with (fail)
      refine start_ (n := 15) (S := fun w' => w'.cell? (ad.add i) = some (.string s)) (ds := []) #[false, false, false, false, false, false, false, false, false, false, false, false, false, false, false] (by kernel_rfl) rfl rfl (hcell3.out) (fun hHeld => ?_)
      refine pure_ (i := 0) (N := some 12) (v := ?_) (a' := ?_) #[true, false, false, false, false, false, false, false, false, false, false, false, false, false, false] rfl rfl (by kernel_rfl) (fun _ _ _ h => h) (Or.inl ⟨by rfl, ?_⟩) ?_ ?_
      rotate_left
      · intro w'
        go_simp
        with_reducible rfl
      rotate_left
      · simp only [Act.put, List.setIfInBounds_toArray, List.set_cons_zero, List.set_cons_succ, i64_w, i32_w]
        rfl
      refine pure_ (i := 1) (N := some 13) (v := ?_) (a' := ?_) #[true, true, false, false, false, false, false, false, false, false, false, false, false, false, false] rfl rfl (by kernel_rfl) (fun _ _ _ h => h) (Or.inl ⟨by rfl, ?_⟩) ?_ ?_
      rotate_left
      · intro w'
        go_simp
        with_reducible rfl
      rotate_left
      · simp only [Act.put, List.setIfInBounds_toArray, List.set_cons_zero, List.set_cons_succ, i64_w, i32_w]
        rfl
      refine pure_ (i := 2) (N := some 14) (v := ?_) (a' := ?_) #[true, true, true, false, false, false, false, false, false, false, false, false, false, false, false] rfl rfl (by kernel_rfl) (fun _ _ _ h => h) (Or.inl ⟨by rfl, ?_⟩) ?_ ?_
      rotate_left
      · intro w'
        go_simp
        with_reducible rfl
      rotate_left
      · simp only [Act.put, List.setIfInBounds_toArray, List.set_cons_zero, List.set_cons_succ, i64_w, i32_w]
        rfl
      refine pure_ (i := 3) (N := some 15) (v := ?_) (a' := ?_) #[true, true, true, true, false, false, false, false, false, false, false, false, false, false, false] rfl rfl (by kernel_rfl) (fun _ _ _ h => h) (Or.inl ⟨by rfl, ?_⟩) ?_ ?_
      rotate_left
      · intro w'
        go_simp
        with_reducible rfl
      rotate_left
      · simp only [Act.put, List.setIfInBounds_toArray, List.set_cons_zero, List.set_cons_succ, i64_w, i32_w]
        rfl
      refine pure_ (i := 9) (N := some 21) (v := ?_) (a' := ?_) #[true, true, true, true, false, false, false, false, false, true, false, false, false, false, false] rfl rfl (by kernel_rfl) (fun _ _ _ h => h) (Or.inl ⟨by rfl, ?_⟩) ?_ ?_
      rotate_left
      · intro w'
        go_simp
        with_reducible rfl
      rotate_left
      · simp only [Act.put, List.setIfInBounds_toArray, List.set_cons_zero, List.set_cons_succ, i64_w, i32_w]
        rfl
      refine pure_ (i := 10) (N := some 22) (v := ?_) (a' := ?_) #[true, true, true, true, false, false, false, false, false, true, true, false, false, false, false] rfl rfl (by kernel_rfl) (fun _ _ _ h => h) (Or.inl ⟨by rfl, ?_⟩) ?_ ?_
      rotate_left
      · intro w'
        go_simp
        with_reducible rfl
      rotate_left
      · simp only [Act.put, List.setIfInBounds_toArray, List.set_cons_zero, List.set_cons_succ, i64_w, i32_w]
        rfl
      refine pure_ (i := 11) (N := some 23) (v := ?_) (a' := ?_) #[true, true, true, true, false, false, false, false, false, true, true, true, false, false, false] rfl rfl (by kernel_rfl) (fun _ _ _ h => h) (Or.inl ⟨by rfl, ?_⟩) ?_ ?_
      rotate_left
      · intro w'
        go_simp
        with_reducible rfl
      rotate_left
      · simp only [Act.put, List.setIfInBounds_toArray, List.set_cons_zero, List.set_cons_succ, i64_w, i32_w]
        rfl
      refine take_ (i := 4) (N := some 16) (v := ?_) (a' := ?_) #[true, true, true, true, true, false, false, false, false, true, true, true, false, false, false] rfl rfl (by kernel_rfl) (fun _ _ _ h => h) (Or.inl ⟨by rfl, ?_⟩) hHeld ?_ ?_
      rotate_left
      · intro w' s0
        go_simp
        with_reducible rfl
      rotate_left
      · simp only [Act.put, List.setIfInBounds_toArray, List.set_cons_zero, List.set_cons_succ, i64_w, i32_w]
        rfl
      refine pure_ (i := 5) (N := some 17) (v := ?_) (a' := ?_) #[true, true, true, true, true, true, false, false, false, true, true, true, false, false, false] rfl rfl (by kernel_rfl) (fun _ _ _ h => h) (Or.inl ⟨by rfl, ?_⟩) ?_ ?_
      rotate_left
      · intro w'
        go_simp
        with_reducible rfl
      rotate_left
      · simp only [Act.put, List.setIfInBounds_toArray, List.set_cons_zero, List.set_cons_succ, i64_w, i32_w]
        rfl
      refine pure_ (i := 6) (N := some 18) (v := ?_) (a' := ?_) #[true, true, true, true, true, true, true, false, false, true, true, true, false, false, false] rfl rfl (by kernel_rfl) (fun _ _ _ h => h) (Or.inl ⟨by rfl, ?_⟩) ?_ ?_
      rotate_left
      · intro w'
        go_simp
        with_reducible rfl
      rotate_left
      · simp only [Act.put, List.setIfInBounds_toArray, List.set_cons_zero, List.set_cons_succ, i64_w, i32_w]
        rfl
      refine take_ (i := 12) (N := some 24) (v := ?_) (a' := ?_) #[true, true, true, true, true, true, true, false, false, true, true, true, true, false, false] rfl rfl (by kernel_rfl) (fun _ _ _ h => h) (Or.inl ⟨by rfl, ?_⟩) hHeld ?_ ?_
      rotate_left
      · intro w' s0
        go_simp
        with_reducible rfl
      rotate_left
      · simp only [Act.put, List.setIfInBounds_toArray, List.set_cons_zero, List.set_cons_succ, i64_w, i32_w]
        rfl
      refine one_ (i := 7) (N := some 19) #[true, true, true, true, true, true, true, true, false, true, true, true, true, false, false] rfl rfl (by kernel_rfl) (by decide) (fun K hK => ?_)
      refine goes_ Try.func29 (by kernel_rfl) rfl #[.int .u64 (s.size : Int)] (by rfl) rfl rfl (by simp only [List.map_toArray, List.map_cons, List.map_nil]; rfl) ?_
      refine (refPut (s.size : Int) (by omega) (by omega) _).mono ?_
      rintro e w3 ⟨v, rfl, ho, hb⟩
      refine ⟨_, rfl, ?_⟩
      rw [Int.toNat_natCast, hPe.out] at ho
      obtain ⟨Ap, cp, rfl, lp, ho⟩ := R_C ho
      have HP := Aside0.mk ho
      have HO3 := Aside0.mk (Kd.R_below (Kd.R_drew HO.out) hb)
      have HB3 := Aside0.mk (below_step (below_drew HB.out) hb)
      have hc3 := pw_cell_below hb hHeld
      clear ho hb
      refine hK.out _ _ (hc3) (fun hHeld => ?_)
      clear hK K
      refine norm_ (a' := ?_) ?_ ?_
      rotate_left
      · show Act.put _ (some 19) _ = _
        simp only [Act.put, List.setIfInBounds_toArray, List.set_cons_zero, List.set_cons_succ, i64_w, i32_w]
        rfl
      refine one_ (i := 8) (N := some 20) #[true, true, true, true, true, true, true, true, true, true, true, true, true, false, false] rfl rfl (by kernel_rfl) (by decide) (fun K hK => ?_)
      refine appendRow_step (k := .u8) (w0 := w) (by rfl) (.tmp 12) (.tmp 19) 25 5 1 rfl Try.underlying25 CEach.info_u8 (by decide) _ E P Ap P.length cp rfl rfl HO3.out HP.out HB3.out (by have := hEl2.out; have := hpl.out; omega) ?_
      intro v8 w8 ho8 hb8
      have HO8 := Aside0.mk ho8
      have HB8 := Aside0.mk hb8
      clear ho8 hb8
      refine hK.out _ _ ((pw_cell_below HB8.out hcell2.out)) (fun hHeld => ?_)
      clear hK K
      refine norm_ (a' := ?_) ?_ ?_
      rotate_left
      · show Act.put _ (some 20) _ = _
        simp only [Act.put, List.setIfInBounds_toArray, List.set_cons_zero, List.set_cons_succ, i64_w, i32_w]
        rfl
      refine one_ (i := 13) (N := some 25) #[true, true, true, true, true, true, true, true, true, true, true, true, true, true, false] rfl rfl (by kernel_rfl) (by decide) (fun K hK => ?_)
      refine appendStr_step (w0 := w) (by rfl) (.tmp 20) (.tmp 24) 25 9 5 rfl Try.underlying25 Try.underlying9 CEach.info_u8 _ (E ++ P) s rfl rfl HO8.out HB8.out (by have := hEl2.out; have := hpl.out; rw [List.length_append]; omega) ?_
      intro v9 w9 ho9 hb9
      have HO9 := Aside0.mk ho9
      have HB9 := Aside0.mk hb9
      clear ho9 hb9
      refine hK.out _ _ ((pw_cell_below HB9.out hcell2.out)) (fun hHeld => ?_)
      clear hK K
      refine norm_ (a' := ?_) ?_ ?_
      rotate_left
      · show Act.put _ (some 25) _ = _
        simp only [Act.put, List.setIfInBounds_toArray, List.set_cons_zero, List.set_cons_succ, i64_w, i32_w]
        rfl
      refine pure_ (i := 14) (N := some 3) (v := ?_) (a' := ?_) #[true, true, true, true, true, true, true, true, true, true, true, true, true, true, true] rfl rfl (by kernel_rfl) (fun _ _ _ h => h) (Or.inl ⟨by rfl, ?_⟩) ?_ ?_
      rotate_left
      · intro w'
        go_simp
        with_reducible rfl
      rotate_left
      · simp only [Act.put, List.setIfInBounds_toArray, List.set_cons_zero, List.set_cons_succ, i64_w, i32_w]
        rfl
      refine done_ (by kernel_rfl) ?_
      go_wp2_with (fail)
      go_roundw
      case rel => exact ⟨i + 1, by go_num, by omega, ⟨by rw [hsn.out, ← List.append_assoc]; exact HO9.out⟩, HB9⟩
      case measure => clear hwr; simp [intOf]; omega
    · obtain rfl : i = l.length := by omega
      have hT := HO.out
      rw [List.take_of_length_le (Nat.le_refl _)] at hT
      have HT := Aside0.mk hT
      clear hT HO
      go_wp2_with (fail)
      go_ret
      exact ⟨_, rfl, HT.out, HB.out⟩

end Go.Proofs.Ytnecipeckamiiaa.CREach
