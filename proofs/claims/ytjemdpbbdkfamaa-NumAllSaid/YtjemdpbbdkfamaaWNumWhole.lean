/- The walk of the law NumWhole. -/
import Derived.Test.YtjemdpbbdkfamaaCNum
import Derived.Test.YtjemdpbbdkfamaaCVar
import Derived.Test.YtjemdpbbdkfamaaHold
namespace Go.Proofs.Ytjemdpbbdkfamaa.WNumWhole
open Go.RowKit Go.Proofs.YtjemdpbbdkfamaaW.PrintWords Go.Proofs.YtjemdpbbdkfamaaW.PrintLast Go.Proofs.YtjemdpbbdkfamaaW.PrintMore Go.Proofs.Ytjemdpbbdkfamaa.Num Go.Proofs.Ytjemdpbbdkfamaa.Bits Go.Proofs.Ytjemdpbbdkfamaa.VarM Go.Proofs.Ytjemdpbbdkfamaa.CNum Go.Proofs.Ytjemdpbbdkfamaa.CVar Go.Proofs.Ytjemdpbbdkfamaa.Hold
set_option linter.unusedVariables false
set_option linter.unusedSimpArgs false
attribute [local go_sem] max2_int min2_int max_two min_two max_three min_three max_four min_four

theorem info_u8 : (Try.prog.info? 5).map (fun i => (i.zero, i.size, i.bytes)) = some (some (.int .u8 0), 1, 1) := by kernel_rfl
theorem shortC (A : Option Addr) (c : Nat) (l : List Int) (w : World) (hc : l.length ≤ c) (hm : l.length ≤ 9223372036854775807) :
    Calls Try.prog 14 #[.slice A l.length c] w fun e w' => e = .returned (.slice A (l.take 40).length c) ∧ w = w' := by
  by_cases h : (l.length : Int) > 40
  · have hcut := cutTo (P := Try.prog) 24 5 Try.underlying24 info_u8 A l.length c 40 (by omega) (by omega) hc
    have e : (l.take 40).length = 40 := by rw [List.length_take]; omega
    rw [e]
    clear e
    go_enter Try.func14, Try.ntmps14
    go_wp2
    go_ret
    exact ⟨rfl, rfl⟩
  · have e : l.take 40 = l := List.take_of_length_le (by omega)
    rw [e]
    clear e
    go_enter Try.func14, Try.ntmps14
    go_wp2
    go_ret
    exact ⟨rfl, rfl⟩

/-- Bytes that end as a number's do are a number's. -/
theorem build (p : List Int) (c : Int) : Bytes (p ++ [c]) → (∀ a ∈ p, 128 ≤ a) → c < 128 → (p = [] ∨ 0 < c) → ∃ y : Nat, pv y = p ++ [c] ∧ y < 128 ^ (p.length + 1) ∧ (0 < c → 1 ≤ y) := by
  induction p with
  | nil =>
    intro hb _ hc _
    have := hb c (by simp)
    exact ⟨c.toNat, by rw [pv_small (by omega)]; simp; omega, by simp; omega, by omega⟩
  | cons a p ih =>
    intro hb ha hc h0
    have h1 : 0 < c := by rcases h0 with h | h; (· cases h); exact h
    obtain ⟨y, hy, hlt, hy1⟩ := ih (fun d hd => hb d (by simp only [List.cons_append, List.mem_cons]; exact .inr hd)) (fun d hd => ha d (List.mem_cons_of_mem _ hd)) hc (.inr h1)
    have hab := hb a (by simp)
    have ha1 := ha a (by simp)
    have := hy1 h1
    refine ⟨y * 128 + (a - 128).toNat, ?_, ?_, fun _ => by omega⟩
    · rw [pv_big (by omega)]
      have e1 : (y * 128 + (a - 128).toNat) / 128 = y := by omega
      have e2 : (y * 128 + (a - 128).toNat) % 128 = (a - 128).toNat := by omega
      rw [e1, e2, hy, List.cons_append]
      congr 1
      omega
    · rw [List.length_cons, Nat.pow_succ]
      omega
theorem none_ends {l : List Int} (hb : Bytes l) (hno : ∀ y : Nat, y < 18446744073709551616 → ¬ pv y <+: l) (i : Nat) (hi : i < l.length) (h9 : i < 9) (hall : ∀ a ∈ l.take i, 128 ≤ a) (hc : l.getD i 0 < 128) : 0 < i ∧ l.getD i 0 = 0 := by
  have ht : l.take (i + 1) = l.take i ++ [l.getD i 0] := by
    rw [List.take_succ_eq_append_getElem hi]
    simp [List.getD, List.getElem?_eq_getElem hi]
  have hb1 : Bytes (l.take i ++ [l.getD i 0]) := by rw [← ht]; exact hb.take _
  have hcb := hb1 (l.getD i 0) (by simp)
  have hlt : (l.take i).length = i := by rw [List.length_take]; omega
  by_cases h : l.take i = [] ∨ 0 < l.getD i 0
  · obtain ⟨y, hy, hlt2, _⟩ := build _ _ hb1 hall hc h
    rw [hlt] at hlt2
    have h3 : (128 : Nat) ^ (i + 1) ≤ 128 ^ 9 := Nat.pow_le_pow_right (by decide) (by omega)
    exact absurd ⟨l.drop (i + 1), by rw [hy, ← ht]; exact List.take_append_drop _ _⟩ (hno y (by omega))
  · refine ⟨?_, by omega⟩
    rcases Nat.eq_zero_or_pos i with h0 | h0
    · exact absurd (.inl (by rw [h0]; rfl)) h
    · exact h0

set_option maxHeartbeats 8000000 in
set_option maxRecDepth 100000 in
theorem core_yes (A : Option Addr) (c : Nat) (l b : List Int) (w : World) (HR : Aside0 (Kd.C (Kd.int .u8) w A b.length b)) (hcb : b.length ≤ c) (h40 : b.length ≤ 40) (hb : Aside0 (Bytes b))
    (hf : ∀ W, Calls Try.prog 14 #[.slice A l.length c] W fun e w' => e = .returned (.slice A b.length c) ∧ W = w')
    (y : Nat) (hy : y < 18446744073709551616) (hp : Aside0 (pv y <+: b)) :
    Calls Try.prog 6 #[.slice A l.length c] w fun e w' => e = .returned (.bool true) ∧ Below w.heap.size w w' := by
  have HB := Aside0.mk (Below.refl w.heap.size w)
  have HF := Aside0.mk hf
  clear hf
  have hv := fun W h => varC A c b W h hcb hb.out (by omega)
  rw [var_pv hy hp.out] at hv
  obtain ⟨n, hn⟩ : ∃ n, (pv y).length = n := ⟨_, rfl⟩
  rw [hn] at hv
  have HV := Aside0.mk hv
  clear hv
  have n1 : 1 ≤ n := by rw [← hn]; exact pv_pos y
  have n2 : n ≤ b.length := by rw [← hn]; exact hp.out.length_le
  have HN := Aside0.mk hn
  clear hn
  have hcut := cutTo (P := Try.prog) 24 5 Try.underlying24 info_u8 A b.length c (n : Int) (by omega) (by omega) hcb
  rw [Int.toNat_natCast] at hcut
  go_enter Try.func6, Try.ntmps6
  go_wp2_with (fail)
  (with_reducible refine (shown _).mono ?_); rintro e w1 ⟨rfl, hb1⟩
  replace HB := Aside0.mk (below_step HB.out hb1); replace HR := Aside0.mk (Kd.C_below HR.out hb1); clear hb1
  go_wp2_with (fail)
  refine (HF.out _).mono ?_; rintro e w2 ⟨rfl, rfl⟩
  clear HF
  go_wp2_with (fail)
  refine (HV.out _ HR.out).mono ?_; rintro e w2 ⟨rfl, ⟨nd, rfl⟩⟩
  have hne : ((n : Int) == 0) = false := beq_eq_false_iff_ne.mpr (by omega)
  have HT : Kd.C (Kd.int .u8) (w1.drewN nd) A n (pv y) := by
    have h := Kd.C_drewN (Kd.C_take (m := n) HR.out n2) nd
    have e : b.take n = pv y := by rw [← HN.out]; exact (List.prefix_iff_eq_take.1 hp.out).symm
    rw [e, HN.out] at h
    exact h
  have HS : Aside0 (∀ W, Below (w1.drewN nd).heap.size (w1.drewN nd) W → (convert 24 9 (.slice A n c)).run Try.prog W = .ok (.string (strOfNums (pv y))) W) :=
    ⟨fun W hb => toStr1 (P := Try.prog) c Try.underlying24 Try.underlying5 Try.underlying9 (Kd.C_below HT hb)⟩
  clear HT
  have hs1 := HS.out _ (below_drew (Below.refl _ _))
  replace HB := Aside0.mk (pw_below_drewN HB.out nd)
  generalize w1.drewN nd = w3 at *
  go_wp2_with (fail)
  refine start_ (n := 18) (S := fun w' => (convert 24 9 (.slice A n c)).run Try.prog w' = .ok (.string (strOfNums (pv y))) w') (ds := []) #[false, false, false, false, false, false, false, false, false, false, false, false, false, false, false, false, false, false] (by kernel_rfl) rfl rfl (hs1) (fun hHeld => ?_)
  refine pure_ (i := 0) (N := some 61) (v := ?_) (a' := ?_) #[true, false, false, false, false, false, false, false, false, false, false, false, false, false, false, false, false, false] rfl rfl (by kernel_rfl) (fun _ _ _ h => h) (Or.inl ⟨by rfl, ?_⟩) ?_ ?_
  rotate_left
  · intro w'
    go_simp
    with_reducible rfl
  rotate_left
  · simp only [Act.put, List.setIfInBounds_toArray, List.set_cons_zero, List.set_cons_succ, i64_w, i32_w]
    rfl
  refine pure_ (i := 1) (N := some 62) (v := ?_) (a' := ?_) #[true, true, false, false, false, false, false, false, false, false, false, false, false, false, false, false, false, false] rfl rfl (by kernel_rfl) (fun _ _ _ h => h) (Or.inl ⟨by rfl, ?_⟩) ?_ ?_
  rotate_left
  · intro w'
    go_simp
    with_reducible rfl
  rotate_left
  · simp only [Act.put, List.setIfInBounds_toArray, List.set_cons_zero, List.set_cons_succ, i64_w, i32_w]
    rfl
  refine pure_ (i := 2) (N := some 63) (v := ?_) (a' := ?_) #[true, true, true, false, false, false, false, false, false, false, false, false, false, false, false, false, false, false] rfl rfl (by kernel_rfl) (fun _ _ _ h => h) (Or.inl ⟨by rfl, ?_⟩) ?_ ?_
  rotate_left
  · intro w'
    go_simp
    with_reducible rfl
  rotate_left
  · simp only [Act.put, List.setIfInBounds_toArray, List.set_cons_zero, List.set_cons_succ, i64_w, i32_w]
    rfl
  refine pure_ (i := 3) (N := some 64) (v := ?_) (a' := ?_) #[true, true, true, true, false, false, false, false, false, false, false, false, false, false, false, false, false, false] rfl rfl (by kernel_rfl) (fun _ _ _ h => h) (Or.inl ⟨by rfl, ?_⟩) ?_ ?_
  rotate_left
  · intro w'
    go_simp
    with_reducible rfl
  rotate_left
  · simp only [Act.put, List.setIfInBounds_toArray, List.set_cons_zero, List.set_cons_succ, i64_w, i32_w]
    rfl
  refine pure_ (i := 4) (N := some 65) (v := ?_) (a' := ?_) #[true, true, true, true, true, false, false, false, false, false, false, false, false, false, false, false, false, false] rfl rfl (by kernel_rfl) (fun _ _ _ h => h) (Or.inl ⟨by rfl, ?_⟩) ?_ ?_
  rotate_left
  · intro w'
    go_simp
    with_reducible rfl
  rotate_left
  · simp only [Act.put, List.setIfInBounds_toArray, List.set_cons_zero, List.set_cons_succ, i64_w, i32_w]
    rfl
  refine pure_ (i := 5) (N := some 66) (v := ?_) (a' := ?_) #[true, true, true, true, true, true, false, false, false, false, false, false, false, false, false, false, false, false] rfl rfl (by kernel_rfl) (fun _ _ _ h => h) (Or.inl ⟨by rfl, ?_⟩) ?_ ?_
  rotate_left
  · intro w'
    go_simp
    with_reducible rfl
  rotate_left
  · simp only [Act.put, List.setIfInBounds_toArray, List.set_cons_zero, List.set_cons_succ, i64_w, i32_w]
    rfl
  refine pure_ (i := 6) (N := some 67) (v := ?_) (a' := ?_) #[true, true, true, true, true, true, true, false, false, false, false, false, false, false, false, false, false, false] rfl rfl (by kernel_rfl) (fun _ _ _ h => h) (Or.inl ⟨by rfl, ?_⟩) ?_ ?_
  rotate_left
  · intro w'
    go_simp
    with_reducible rfl
  rotate_left
  · simp only [Act.put, List.setIfInBounds_toArray, List.set_cons_zero, List.set_cons_succ, i64_w, i32_w]
    rfl
  refine pure_ (i := 7) (N := some 68) (v := ?_) (a' := ?_) #[true, true, true, true, true, true, true, true, false, false, false, false, false, false, false, false, false, false] rfl rfl (by kernel_rfl) (fun _ _ _ h => h) (Or.inl ⟨by rfl, ?_⟩) ?_ ?_
  rotate_left
  · intro w'
    go_simp
    with_reducible rfl
  rotate_left
  · simp only [Act.put, List.setIfInBounds_toArray, List.set_cons_zero, List.set_cons_succ, i64_w, i32_w]
    rfl
  refine pure_ (i := 8) (N := some 69) (v := ?_) (a' := ?_) #[true, true, true, true, true, true, true, true, true, false, false, false, false, false, false, false, false, false] rfl rfl (by kernel_rfl) (fun _ _ _ h => h) (Or.inl ⟨by rfl, ?_⟩) ?_ ?_
  rotate_left
  · intro w'
    go_simp
    with_reducible rfl
  rotate_left
  · simp only [Act.put, List.setIfInBounds_toArray, List.set_cons_zero, List.set_cons_succ, i64_w, i32_w]
    rfl
  refine pure_ (i := 11) (N := some 72) (v := ?_) (a' := ?_) #[true, true, true, true, true, true, true, true, true, false, false, true, false, false, false, false, false, false] rfl rfl (by kernel_rfl) (fun _ _ _ h => h) (Or.inl ⟨by rfl, ?_⟩) ?_ ?_
  rotate_left
  · intro w'
    go_simp
    with_reducible rfl
  rotate_left
  · simp only [Act.put, List.setIfInBounds_toArray, List.set_cons_zero, List.set_cons_succ, i64_w, i32_w]
    rfl
  refine pure_ (i := 12) (N := some 73) (v := ?_) (a' := ?_) #[true, true, true, true, true, true, true, true, true, false, false, true, true, false, false, false, false, false] rfl rfl (by kernel_rfl) (fun _ _ _ h => h) (Or.inl ⟨by rfl, ?_⟩) ?_ ?_
  rotate_left
  · intro w'
    go_simp
    with_reducible rfl
  rotate_left
  · simp only [Act.put, List.setIfInBounds_toArray, List.set_cons_zero, List.set_cons_succ, i64_w, i32_w]
    rfl
  refine pure_ (i := 13) (N := some 74) (v := ?_) (a' := ?_) #[true, true, true, true, true, true, true, true, true, false, false, true, true, true, false, false, false, false] rfl rfl (by kernel_rfl) (fun _ _ _ h => h) (Or.inl ⟨by rfl, ?_⟩) ?_ ?_
  rotate_left
  · intro w'
    go_simp
    with_reducible rfl
  rotate_left
  · simp only [Act.put, List.setIfInBounds_toArray, List.set_cons_zero, List.set_cons_succ, i64_w, i32_w]
    rfl
  refine take_ (i := 14) (N := some 75) (v := ?_) (a' := ?_) #[true, true, true, true, true, true, true, true, true, false, false, true, true, true, true, false, false, false] rfl rfl (by kernel_rfl) (fun _ _ _ h => h) (Or.inl ⟨by rfl, ?_⟩) hHeld ?_ ?_
  rotate_left
  · intro w' s0
    go_simp
    with_reducible rfl
  rotate_left
  · simp only [Act.put, List.setIfInBounds_toArray, List.set_cons_zero, List.set_cons_succ, i64_w, i32_w]
    rfl
  refine one_ (i := 9) (N := some 70) #[true, true, true, true, true, true, true, true, true, true, false, true, true, true, true, false, false, false] rfl rfl (by kernel_rfl) (by decide) (fun K hK => ?_)
  refine goes_ Try.func10 (by kernel_rfl) rfl #[.int .u64 (y : Int)] (by rfl) rfl rfl (by simp only [List.map_toArray, List.map_cons, List.map_nil]; rfl) ?_
  refine (putVar (y : Int) (by omega) (by omega) _).mono ?_
  rintro e w8 ⟨v, rfl, ho, hb2⟩
  refine ⟨_, rfl, ?_⟩
  rw [Int.toNat_natCast] at ho
  obtain ⟨Ab, cb, rfl, lb, ho⟩ := R_C ho
  have s8 := toStr1 (P := Try.prog) cb Try.underlying24 Try.underlying5 Try.underlying9 ho
  have hs1 := HS.out _ (below_step (below_drew (Below.refl _ _)) hb2)
  have HB8 := Aside0.mk (below_step (below_drew HB.out) hb2)
  clear ho hb2
  refine hK.out _ _ (hs1) (fun hHeld => ?_)
  clear hK K
  refine norm_ (a' := ?_) ?_ ?_
  rotate_left
  · show Act.put _ (some 70) _ = _
    simp only [Act.put, List.setIfInBounds_toArray, List.set_cons_zero, List.set_cons_succ, i64_w, i32_w]
    rfl
  refine one_ (i := 10) (N := some 71) #[true, true, true, true, true, true, true, true, true, true, true, true, true, true, true, false, false, false] rfl rfl (by kernel_rfl) (by decide) (fun K hK => ?_)
  refine value_ (w1 := ?_) (v := ?_) (by rfl) rfl ?_ ?_
  rotate_left 2
  · go_simp
    constructor
    · rfl
    · rfl
  refine hK.out _ _ (hs1) (fun hHeld => ?_)
  clear hK K
  refine norm_ (a' := ?_) ?_ ?_
  rotate_left
  · show Act.put _ (some 71) _ = _
    simp only [Act.put, List.setIfInBounds_toArray, List.set_cons_zero, List.set_cons_succ, i64_w, i32_w]
    rfl
  refine pure_ (i := 15) (N := some 76) (v := ?_) (a' := ?_) #[true, true, true, true, true, true, true, true, true, true, true, true, true, true, true, true, false, false] rfl rfl (by kernel_rfl) (fun _ _ _ h => h) (Or.inl ⟨by rfl, ?_⟩) ?_ ?_
  rotate_left
  · intro w'
    go_simp
    with_reducible rfl
  rotate_left
  · simp only [Act.put, List.setIfInBounds_toArray, List.set_cons_zero, List.set_cons_succ, i64_w, i32_w]
    rfl
  refine pure_ (i := 16) (N := some 77) (v := ?_) (a' := ?_) #[true, true, true, true, true, true, true, true, true, true, true, true, true, true, true, true, true, false] rfl rfl (by kernel_rfl) (fun _ _ _ h => h) (Or.inl ⟨by rfl, ?_⟩) ?_ ?_
  rotate_left
  · intro w'
    go_simp
    with_reducible rfl
  rotate_left
  · simp only [Act.put, List.setIfInBounds_toArray, List.set_cons_zero, List.set_cons_succ, i64_w, i32_w]
    rfl
  refine pure_ (i := 17) (N := some 2) (v := ?_) (a' := ?_) #[true, true, true, true, true, true, true, true, true, true, true, true, true, true, true, true, true, true] rfl rfl (by kernel_rfl) (fun _ _ _ h => h) (Or.inl ⟨by rfl, ?_⟩) ?_ ?_
  rotate_left
  · intro w'
    go_simp
    with_reducible rfl
  rotate_left
  · simp only [Act.put, List.setIfInBounds_toArray, List.set_cons_zero, List.set_cons_succ, i64_w, i32_w]
    rfl
  refine done_ (by kernel_rfl) ?_
  go_wp2_with (fail)
  go_ret
  exact ⟨rfl, HB8.out⟩

set_option maxHeartbeats 8000000 in
set_option maxRecDepth 100000 in
theorem core_no (A : Option Addr) (c : Nat) (l b : List Int) (w : World) (HR : Aside0 (Kd.C (Kd.int .u8) w A b.length b)) (hcb : b.length ≤ c) (h40 : b.length ≤ 40) (hb : Aside0 (Bytes b))
    (hf : ∀ W, Calls Try.prog 14 #[.slice A l.length c] W fun e w' => e = .returned (.slice A b.length c) ∧ W = w')
    (hv0 : var b = (0, 0)) (hno : Aside0 (∀ y : Nat, y < 18446744073709551616 → ¬ pv y <+: b)) :
    Calls Try.prog 6 #[.slice A l.length c] w fun e w' => e = .returned (.bool true) ∧ Below w.heap.size w w' := by
  have HB := Aside0.mk (Below.refl w.heap.size w)
  have HF := Aside0.mk hf
  clear hf
  have hv := fun W h => varC A c b W h hcb hb.out (by omega)
  rw [hv0] at hv
  have HV := Aside0.mk hv
  clear hv hv0
  go_enter Try.func6, Try.ntmps6
  go_wp2_with (fail)
  (with_reducible refine (shown _).mono ?_); rintro e w1 ⟨rfl, hb1⟩
  replace HB := Aside0.mk (below_step HB.out hb1); replace HR := Aside0.mk (Kd.C_below HR.out hb1); clear hb1
  go_wp2_with (fail)
  refine (HF.out _).mono ?_; rintro e w2 ⟨rfl, rfl⟩
  clear HF
  go_wp2_with (fail)
  refine (HV.out _ HR.out).mono ?_; rintro e w2 ⟨rfl, ⟨nd, rfl⟩⟩
  replace HB := Aside0.mk (pw_below_drewN HB.out nd)
  replace HR := Aside0.mk (Kd.C_drewN HR.out nd)
  clear HV
  generalize w1.drewN nd = w3 at *
  go_wp2_with (fail)
  go_loop [6, 7] (fun v6 v7 => ∃ i : Nat, v6 = .bool false ∧ v7 = .int .i64 i ∧ i ≤ b.length ∧ i ≤ 9 ∧ Aside0 (∀ a ∈ b.take i, 128 ≤ a)) (fun _ v7 => 9 - (intOf v7).toNat)
  case atStart => exact ⟨0, rfl, rfl, by omega, by omega, ⟨by simp⟩⟩
  case round =>
    obtain ⟨i, rfl, rfl, hib, hi9, hall⟩ := hrel
    by_cases hlt : i < b.length ∧ i < 9
    · obtain ⟨hlt, h9⟩ := hlt
      obtain ⟨ad, hA, hcells⟩ := C_cells HR.out (by omega : 0 < b.length)
      have hcell := hcells i hlt
      clear hcells
      subst hA
      have hx := hb.out (b.getD i 0) (by simp [List.getD, List.getElem?_eq_getElem hlt])
      have HE := Aside0.mk (none_ends hb.out hno.out i hlt h9 hall.out)
      have hlI : (i : Int) < (b.length : Int) := by omega
      have hal : Aside0 (¬ b.getD i 0 < 128 → ∀ a ∈ b.take (i + 1), 128 ≤ a) := ⟨fun hn a ha => by
        rw [List.take_succ_eq_append_getElem hlt] at ha
        rcases List.mem_append.1 ha with h | h
        · exact hall.out a h
        · have e : a = b.getD i 0 := by
            have h1 := List.mem_singleton.1 h
            rw [h1]
            simp [List.getD, List.getElem?_eq_getElem hlt]
          omega⟩
      obtain ⟨x, hxe⟩ : ∃ x, b.getD i 0 = x := ⟨_, rfl⟩
      rw [hxe] at hcell hx HE hal
      clear hxe
      by_cases h128 : x < 128
      · obtain ⟨hi0, hx0⟩ := HE.out h128
        subst hx0
        have hi0' : ((i : Int) == 0) = false := beq_eq_false_iff_ne.mpr (by omega)
        go_wp2_with (fail)
        go_ret
        exact ⟨rfl, HB.out⟩
      · go_wp2_with (fail)
        go_round
        case rel => exact ⟨i + 1, by simp, by go_num, by omega, by omega, ⟨hal.out h128⟩⟩
        case measure => simp [intOf]; omega
    · by_cases h1 : i < b.length
      · have h30 : ¬ (i : Int) < 9 := by omega
        go_wp2_with (fail)
        go_ret
        exact ⟨rfl, HB.out⟩
      · have h30 : ¬ (i : Int) < (b.length : Int) := by omega
        go_wp2_with (fail)
        go_ret
        exact ⟨rfl, HB.out⟩

theorem walk (A : Option Addr) (c : Nat) (l : List Int) (w : World) (hr : Kd.C (Kd.int .u8) w A l.length l) (hc : l.length ≤ c) (hw : ∀ n ∈ l, (Lit.int .u8 n).wf = true) (hy : l.length * 1 ≤ 140737488351232) :
    Calls Try.prog 6 #[.slice A l.length c] w fun e w' => e = .returned (.bool true) ∧ Below w.heap.size w w' := by
  have hbytes : Bytes (l.take 40) := fun x hx => by have := wf_u8 (hw x (List.mem_of_mem_take hx)); omega
  have h40 : (l.take 40).length ≤ 40 := by rw [List.length_take]; omega
  have hcb : (l.take 40).length ≤ c := by rw [List.length_take]; omega
  rcases var_cases hbytes with ⟨h0, hno⟩ | ⟨y, hy, hp, _⟩
  · exact core_no A c l _ w ⟨C_take_any 40 hr⟩ hcb h40 ⟨hbytes⟩ (fun W => shortC A c l W hc (by omega)) h0 ⟨hno⟩
  · exact core_yes A c l _ w ⟨C_take_any 40 hr⟩ hcb h40 ⟨hbytes⟩ (fun W => shortC A c l W hc (by omega)) y hy ⟨hp⟩

end Go.Proofs.Ytjemdpbbdkfamaa.WNumWhole
