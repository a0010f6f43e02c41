/- The walk of the law IntsOne. -/
import Derived.Test.YtlhimfkhcdpciaaCTake2
namespace Go.Proofs.Ytlhimfkhcdpciaa.WIntsOne
open Go.RowKit Go.Proofs.YtlhimfkhcdpciaaW.PrintWords Go.Proofs.YtlhimfkhcdpciaaW.PrintLast Go.Proofs.YtlhimfkhcdpciaaW.PrintMore Go.Proofs.Ytlhimfkhcdpciaa.Num Go.Proofs.Ytlhimfkhcdpciaa.Bits Go.Proofs.Ytlhimfkhcdpciaa.VarM Go.Proofs.Ytlhimfkhcdpciaa.Ints Go.Proofs.Ytlhimfkhcdpciaa.IntsT Go.Proofs.Ytlhimfkhcdpciaa.Hold Go.Proofs.Ytlhimfkhcdpciaa.CTake Go.Proofs.Ytlhimfkhcdpciaa.CTake2
open Go.Proofs.Ytlhimfkhcdpciaa.CInts (shown putInts)
set_option linter.unusedVariables false
set_option linter.unusedSimpArgs false
attribute [local go_sem] max2_int min2_int max_two min_two max_three min_three max_four min_four

set_option maxHeartbeats 8000000 in
set_option maxRecDepth 100000 in
theorem long_none (A : Option Addr) (c : Nat) (l b : List Int) (w : World) (hr : Kd.C (Kd.int .u8) w A b.length b) (hl : l.length ≤ c) (hc : b.length ≤ c) (hb : Bytes b) (h500 : b.length ≤ 500) (hlong : (l.length : Int) > 500) (hbl : b.length = 500) (ht : takeM b = none) :
    Calls Try.prog 8 #[.slice A l.length c] w fun e w' => e = .returned (.bool true) ∧ Below w.heap.size w w' := by
  have HT := Aside0.mk (fun W h => take_none A c b W h hc hb (by omega) ht)
  clear ht hb
  have HR := Aside0.mk hr
  have HB := Aside0.mk (Below.refl w.heap.size w)
  clear hr
  have hcut := cutTo (P := Try.prog) 26 5 Try.underlying26 info_u8 A l.length c 500 (by omega) (by omega) hl
  rw [show (500 : Int).toNat = b.length from by rw [hbl]; rfl] at hcut
  clear hbl
  go_enter Try.func8, Try.ntmps8
  go_wp2_with (fail)
  (with_reducible refine (shown _).mono ?_); rintro e w1 ⟨rfl, hb⟩
  replace HB := Aside0.mk (below_step HB.out hb); replace HR := Aside0.mk (Kd.C_below HR.out hb); clear hb
  go_wp2_with (fail)
  refine (HT.out _ HR.out).mono ?_; rintro e w2 ⟨rfl, hb⟩
  replace HB := Aside0.mk (below_step HB.out hb); clear hb
  go_wp2_with (fail)
  go_ret
  exact ⟨rfl, HB.out⟩

set_option maxHeartbeats 8000000 in
set_option maxRecDepth 100000 in
theorem long_some (A : Option Addr) (c : Nat) (l b : List Int) (w : World) (hr : Kd.C (Kd.int .u8) w A b.length b) (hl : l.length ≤ c) (hc : b.length ≤ c) (hb : Bytes b) (h500 : b.length ≤ 500) (hlong : (l.length : Int) > 500) (hbl : b.length = 500) (x : List Int) (ht : takeM b = some x) :
    Calls Try.prog 8 #[.slice A l.length c] w fun e w' => e = .returned (.bool true) ∧ Below w.heap.size w w' := by
  have HT := Aside0.mk (fun W h => take_some A c b W h hc hb (by omega) x ht)
  have hput := (takeM_some ht).1
  have hx := (takeM_some ht).2.1
  have HP := Aside0.mk hput
  clear hput
  clear ht hb
  have HR := Aside0.mk hr
  have HB := Aside0.mk (Below.refl w.heap.size w)
  clear hr
  have hcut := cutTo (P := Try.prog) 26 5 Try.underlying26 info_u8 A l.length c 500 (by omega) (by omega) hl
  rw [show (500 : Int).toNat = b.length from by rw [hbl]; rfl] at hcut
  clear hbl
  go_enter Try.func8, Try.ntmps8
  go_wp2_with (fail)
  (with_reducible refine (shown _).mono ?_); rintro e w1 ⟨rfl, hb⟩
  replace HB := Aside0.mk (below_step HB.out hb); replace HR := Aside0.mk (Kd.C_below HR.out hb); clear hb
  go_wp2_with (fail)
  refine (HT.out _ HR.out).mono ?_; rintro e w2 ⟨Ax, cx, rfl, lx, hx2, hb⟩
  have HX := Aside0.mk hx2
  have HS : Aside0 (∀ W, Below w2.heap.size w2 W → (convert 26 9 (.slice A b.length c)).run Try.prog W = .ok (.string (strOfNums b)) W) := by
    have h1 := Kd.C_below HR.out hb
    exact ⟨fun W hW => toStr1 (P := Try.prog) c Try.underlying26 Try.underlying5 Try.underlying9 (Kd.C_below h1 hW)⟩
  replace HB := Aside0.mk (below_step HB.out hb); clear hb hx2
  have hs1 := HS.out _ (below_drew (Below.refl _ _))
  go_wp2_with (fail)
  refine start_ (n := 10) (S := fun w' => (convert 26 9 (.slice A b.length c)).run Try.prog w' = .ok (.string (strOfNums b)) w') (ds := []) #[false, false, false, false, false, false, false, false, false, false] (by kernel_rfl) rfl rfl (hs1) (fun hHeld => ?_)
  refine pure_ (i := 0) (N := some 29) (v := ?_) (a' := ?_) #[true, false, false, false, false, false, false, false, false, false] rfl rfl (by kernel_rfl) (fun _ _ _ h => h) (Or.inl ⟨by rfl, ?_⟩) ?_ ?_
  rotate_left
  · intro w'
    go_simp
    with_reducible rfl
  rotate_left
  · simp only [Act.put, List.setIfInBounds_toArray, List.set_cons_zero, List.set_cons_succ, i64_w, i32_w]
    rfl
  refine pure_ (i := 1) (N := some 30) (v := ?_) (a' := ?_) #[true, true, false, false, false, false, false, false, false, false] rfl rfl (by kernel_rfl) (fun _ _ _ h => h) (Or.inl ⟨by rfl, ?_⟩) ?_ ?_
  rotate_left
  · intro w'
    go_simp
    with_reducible rfl
  rotate_left
  · simp only [Act.put, List.setIfInBounds_toArray, List.set_cons_zero, List.set_cons_succ, i64_w, i32_w]
    rfl
  refine pure_ (i := 2) (N := some 31) (v := ?_) (a' := ?_) #[true, true, true, false, false, false, false, false, false, false] rfl rfl (by kernel_rfl) (fun _ _ _ h => h) (Or.inl ⟨by rfl, ?_⟩) ?_ ?_
  rotate_left
  · intro w'
    go_simp
    with_reducible rfl
  rotate_left
  · simp only [Act.put, List.setIfInBounds_toArray, List.set_cons_zero, List.set_cons_succ, i64_w, i32_w]
    rfl
  refine pure_ (i := 5) (N := some 34) (v := ?_) (a' := ?_) #[true, true, true, false, false, true, false, false, false, false] rfl rfl (by kernel_rfl) (fun _ _ _ h => h) (Or.inl ⟨by rfl, ?_⟩) ?_ ?_
  rotate_left
  · intro w'
    go_simp
    with_reducible rfl
  rotate_left
  · simp only [Act.put, List.setIfInBounds_toArray, List.set_cons_zero, List.set_cons_succ, i64_w, i32_w]
    rfl
  refine take_ (i := 6) (N := some 35) (v := ?_) (a' := ?_) #[true, true, true, false, false, true, true, false, false, false] rfl rfl (by kernel_rfl) (fun _ _ _ h => h) (Or.inl ⟨by rfl, ?_⟩) hHeld ?_ ?_
  rotate_left
  · intro w' s0
    go_simp
    with_reducible rfl
  rotate_left
  · simp only [Act.put, List.setIfInBounds_toArray, List.set_cons_zero, List.set_cons_succ, i64_w, i32_w]
    rfl
  refine one_ (i := 3) (N := some 32) #[true, true, true, true, false, true, true, false, false, false] rfl rfl (by kernel_rfl) (by decide) (fun K hK => ?_)
  refine goes_ Try.func13 (by kernel_rfl) rfl #[.slice Ax x.length cx] (by rfl) rfl rfl (by simp only [List.map_toArray, List.map_cons, List.map_nil]; rfl) ?_
  refine (putInts Ax cx x _ (Kd.C_drew HX.out) lx (by omega)).mono ?_
  rintro e w8 ⟨v, rfl, ho, hb2⟩
  refine ⟨_, rfl, ?_⟩
  rw [HP.out] at ho
  obtain ⟨Ab, cb, rfl, lb, ho⟩ := R_C ho
  have s8 := toStr1 (P := Try.prog) cb Try.underlying26 Try.underlying5 Try.underlying9 ho
  have hs1 := HS.out _ (below_step (below_drew (Below.refl _ _)) hb2)
  have HB8 := Aside0.mk (below_step (below_drew HB.out) hb2)
  clear ho hb2
  refine hK.out _ _ (hs1) (fun hHeld => ?_)
  clear hK K
  refine norm_ (a' := ?_) ?_ ?_
  rotate_left
  · show Act.put _ (some 32) _ = _
    simp only [Act.put, List.setIfInBounds_toArray, List.set_cons_zero, List.set_cons_succ, i64_w, i32_w]
    rfl
  refine one_ (i := 4) (N := some 33) #[true, true, true, true, true, true, true, false, false, false] rfl rfl (by kernel_rfl) (by decide) (fun K hK => ?_)
  refine value_ (w1 := ?_) (v := ?_) (by rfl) rfl ?_ ?_
  rotate_left 2
  · go_simp
    constructor
    · rfl
    · rfl
  refine hK.out _ _ (hs1) (fun hHeld => ?_)
  clear hK K
  refine norm_ (a' := ?_) ?_ ?_
  rotate_left
  · show Act.put _ (some 33) _ = _
    simp only [Act.put, List.setIfInBounds_toArray, List.set_cons_zero, List.set_cons_succ, i64_w, i32_w]
    rfl
  refine pure_ (i := 7) (N := some 36) (v := ?_) (a' := ?_) #[true, true, true, true, true, true, true, true, false, false] rfl rfl (by kernel_rfl) (fun _ _ _ h => h) (Or.inl ⟨by rfl, ?_⟩) ?_ ?_
  rotate_left
  · intro w'
    go_simp
    with_reducible rfl
  rotate_left
  · simp only [Act.put, List.setIfInBounds_toArray, List.set_cons_zero, List.set_cons_succ, i64_w, i32_w]
    rfl
  refine pure_ (i := 8) (N := some 37) (v := ?_) (a' := ?_) #[true, true, true, true, true, true, true, true, true, false] rfl rfl (by kernel_rfl) (fun _ _ _ h => h) (Or.inl ⟨by rfl, ?_⟩) ?_ ?_
  rotate_left
  · intro w'
    go_simp
    with_reducible rfl
  rotate_left
  · simp only [Act.put, List.setIfInBounds_toArray, List.set_cons_zero, List.set_cons_succ, i64_w, i32_w]
    rfl
  refine pure_ (i := 9) (N := some 2) (v := ?_) (a' := ?_) #[true, true, true, true, true, true, true, true, true, true] rfl rfl (by kernel_rfl) (fun _ _ _ h => h) (Or.inl ⟨by rfl, ?_⟩) ?_ ?_
  rotate_left
  · intro w'
    go_simp
    with_reducible rfl
  rotate_left
  · simp only [Act.put, List.setIfInBounds_toArray, List.set_cons_zero, List.set_cons_succ, i64_w, i32_w]
    rfl
  refine done_ (by kernel_rfl) ?_
  go_wp2_with (fail)
  go_ret
  exact ⟨rfl, HB8.out⟩

set_option maxHeartbeats 8000000 in
set_option maxRecDepth 100000 in
theorem all_none (A : Option Addr) (c : Nat) (l b : List Int) (w : World) (hr : Kd.C (Kd.int .u8) w A b.length b) (hl : l.length ≤ c) (hc : b.length ≤ c) (hb : Bytes b) (h500 : b.length ≤ 500) (hlong : ¬ (l.length : Int) > 500) (hbl : l.length = b.length) (ht : takeM b = none) :
    Calls Try.prog 8 #[.slice A l.length c] w fun e w' => e = .returned (.bool true) ∧ Below w.heap.size w w' := by
  have HT := Aside0.mk (fun W h => take_none A c b W h hc hb (by omega) ht)
  clear ht hb
  have HR := Aside0.mk hr
  have HB := Aside0.mk (Below.refl w.heap.size w)
  clear hr
  rw [hbl] at hl hlong ⊢
  clear hbl
  go_enter Try.func8, Try.ntmps8
  go_wp2_with (fail)
  (with_reducible refine (shown _).mono ?_); rintro e w1 ⟨rfl, hb⟩
  replace HB := Aside0.mk (below_step HB.out hb); replace HR := Aside0.mk (Kd.C_below HR.out hb); clear hb
  go_wp2_with (fail)
  refine (HT.out _ HR.out).mono ?_; rintro e w2 ⟨rfl, hb⟩
  replace HB := Aside0.mk (below_step HB.out hb); clear hb
  go_wp2_with (fail)
  go_ret
  exact ⟨rfl, HB.out⟩

set_option maxHeartbeats 8000000 in
set_option maxRecDepth 100000 in
theorem all_some (A : Option Addr) (c : Nat) (l b : List Int) (w : World) (hr : Kd.C (Kd.int .u8) w A b.length b) (hl : l.length ≤ c) (hc : b.length ≤ c) (hb : Bytes b) (h500 : b.length ≤ 500) (hlong : ¬ (l.length : Int) > 500) (hbl : l.length = b.length) (x : List Int) (ht : takeM b = some x) :
    Calls Try.prog 8 #[.slice A l.length c] w fun e w' => e = .returned (.bool true) ∧ Below w.heap.size w w' := by
  have HT := Aside0.mk (fun W h => take_some A c b W h hc hb (by omega) x ht)
  have hput := (takeM_some ht).1
  have hx := (takeM_some ht).2.1
  have HP := Aside0.mk hput
  clear hput
  clear ht hb
  have HR := Aside0.mk hr
  have HB := Aside0.mk (Below.refl w.heap.size w)
  clear hr
  rw [hbl] at hl hlong ⊢
  clear hbl
  go_enter Try.func8, Try.ntmps8
  go_wp2_with (fail)
  (with_reducible refine (shown _).mono ?_); rintro e w1 ⟨rfl, hb⟩
  replace HB := Aside0.mk (below_step HB.out hb); replace HR := Aside0.mk (Kd.C_below HR.out hb); clear hb
  go_wp2_with (fail)
  refine (HT.out _ HR.out).mono ?_; rintro e w2 ⟨Ax, cx, rfl, lx, hx2, hb⟩
  have HX := Aside0.mk hx2
  have HS : Aside0 (∀ W, Below w2.heap.size w2 W → (convert 26 9 (.slice A b.length c)).run Try.prog W = .ok (.string (strOfNums b)) W) := by
    have h1 := Kd.C_below HR.out hb
    exact ⟨fun W hW => toStr1 (P := Try.prog) c Try.underlying26 Try.underlying5 Try.underlying9 (Kd.C_below h1 hW)⟩
  replace HB := Aside0.mk (below_step HB.out hb); clear hb hx2
  have hs1 := HS.out _ (below_drew (Below.refl _ _))
  go_wp2_with (fail)
  refine start_ (n := 10) (S := fun w' => (convert 26 9 (.slice A b.length c)).run Try.prog w' = .ok (.string (strOfNums b)) w') (ds := []) #[false, false, false, false, false, false, false, false, false, false] (by kernel_rfl) rfl rfl (hs1) (fun hHeld => ?_)
  refine pure_ (i := 0) (N := some 29) (v := ?_) (a' := ?_) #[true, false, false, false, false, false, false, false, false, false] rfl rfl (by kernel_rfl) (fun _ _ _ h => h) (Or.inl ⟨by rfl, ?_⟩) ?_ ?_
  rotate_left
  · intro w'
    go_simp
    with_reducible rfl
  rotate_left
  · simp only [Act.put, List.setIfInBounds_toArray, List.set_cons_zero, List.set_cons_succ, i64_w, i32_w]
    rfl
  refine pure_ (i := 1) (N := some 30) (v := ?_) (a' := ?_) #[true, true, false, false, false, false, false, false, false, false] rfl rfl (by kernel_rfl) (fun _ _ _ h => h) (Or.inl ⟨by rfl, ?_⟩) ?_ ?_
  rotate_left
  · intro w'
    go_simp
    with_reducible rfl
  rotate_left
  · simp only [Act.put, List.setIfInBounds_toArray, List.set_cons_zero, List.set_cons_succ, i64_w, i32_w]
    rfl
  refine pure_ (i := 2) (N := some 31) (v := ?_) (a' := ?_) #[true, true, true, false, false, false, false, false, false, false] rfl rfl (by kernel_rfl) (fun _ _ _ h => h) (Or.inl ⟨by rfl, ?_⟩) ?_ ?_
  rotate_left
  · intro w'
    go_simp
    with_reducible rfl
  rotate_left
  · simp only [Act.put, List.setIfInBounds_toArray, List.set_cons_zero, List.set_cons_succ, i64_w, i32_w]
    rfl
  refine pure_ (i := 5) (N := some 34) (v := ?_) (a' := ?_) #[true, true, true, false, false, true, false, false, false, false] rfl rfl (by kernel_rfl) (fun _ _ _ h => h) (Or.inl ⟨by rfl, ?_⟩) ?_ ?_
  rotate_left
  · intro w'
    go_simp
    with_reducible rfl
  rotate_left
  · simp only [Act.put, List.setIfInBounds_toArray, List.set_cons_zero, List.set_cons_succ, i64_w, i32_w]
    rfl
  refine take_ (i := 6) (N := some 35) (v := ?_) (a' := ?_) #[true, true, true, false, false, true, true, false, false, false] rfl rfl (by kernel_rfl) (fun _ _ _ h => h) (Or.inl ⟨by rfl, ?_⟩) hHeld ?_ ?_
  rotate_left
  · intro w' s0
    go_simp
    with_reducible rfl
  rotate_left
  · simp only [Act.put, List.setIfInBounds_toArray, List.set_cons_zero, List.set_cons_succ, i64_w, i32_w]
    rfl
  refine one_ (i := 3) (N := some 32) #[true, true, true, true, false, true, true, false, false, false] rfl rfl (by kernel_rfl) (by decide) (fun K hK => ?_)
  refine goes_ Try.func13 (by kernel_rfl) rfl #[.slice Ax x.length cx] (by rfl) rfl rfl (by simp only [List.map_toArray, List.map_cons, List.map_nil]; rfl) ?_
  refine (putInts Ax cx x _ (Kd.C_drew HX.out) lx (by omega)).mono ?_
  rintro e w8 ⟨v, rfl, ho, hb2⟩
  refine ⟨_, rfl, ?_⟩
  rw [HP.out] at ho
  obtain ⟨Ab, cb, rfl, lb, ho⟩ := R_C ho
  have s8 := toStr1 (P := Try.prog) cb Try.underlying26 Try.underlying5 Try.underlying9 ho
  have hs1 := HS.out _ (below_step (below_drew (Below.refl _ _)) hb2)
  have HB8 := Aside0.mk (below_step (below_drew HB.out) hb2)
  clear ho hb2
  refine hK.out _ _ (hs1) (fun hHeld => ?_)
  clear hK K
  refine norm_ (a' := ?_) ?_ ?_
  rotate_left
  · show Act.put _ (some 32) _ = _
    simp only [Act.put, List.setIfInBounds_toArray, List.set_cons_zero, List.set_cons_succ, i64_w, i32_w]
    rfl
  refine one_ (i := 4) (N := some 33) #[true, true, true, true, true, true, true, false, false, false] rfl rfl (by kernel_rfl) (by decide) (fun K hK => ?_)
  refine value_ (w1 := ?_) (v := ?_) (by rfl) rfl ?_ ?_
  rotate_left 2
  · go_simp
    constructor
    · rfl
    · rfl
  refine hK.out _ _ (hs1) (fun hHeld => ?_)
  clear hK K
  refine norm_ (a' := ?_) ?_ ?_
  rotate_left
  · show Act.put _ (some 33) _ = _
    simp only [Act.put, List.setIfInBounds_toArray, List.set_cons_zero, List.set_cons_succ, i64_w, i32_w]
    rfl
  refine pure_ (i := 7) (N := some 36) (v := ?_) (a' := ?_) #[true, true, true, true, true, true, true, true, false, false] rfl rfl (by kernel_rfl) (fun _ _ _ h => h) (Or.inl ⟨by rfl, ?_⟩) ?_ ?_
  rotate_left
  · intro w'
    go_simp
    with_reducible rfl
  rotate_left
  · simp only [Act.put, List.setIfInBounds_toArray, List.set_cons_zero, List.set_cons_succ, i64_w, i32_w]
    rfl
  refine pure_ (i := 8) (N := some 37) (v := ?_) (a' := ?_) #[true, true, true, true, true, true, true, true, true, false] rfl rfl (by kernel_rfl) (fun _ _ _ h => h) (Or.inl ⟨by rfl, ?_⟩) ?_ ?_
  rotate_left
  · intro w'
    go_simp
    with_reducible rfl
  rotate_left
  · simp only [Act.put, List.setIfInBounds_toArray, List.set_cons_zero, List.set_cons_succ, i64_w, i32_w]
    rfl
  refine pure_ (i := 9) (N := some 2) (v := ?_) (a' := ?_) #[true, true, true, true, true, true, true, true, true, true] rfl rfl (by kernel_rfl) (fun _ _ _ h => h) (Or.inl ⟨by rfl, ?_⟩) ?_ ?_
  rotate_left
  · intro w'
    go_simp
    with_reducible rfl
  rotate_left
  · simp only [Act.put, List.setIfInBounds_toArray, List.set_cons_zero, List.set_cons_succ, i64_w, i32_w]
    rfl
  refine done_ (by kernel_rfl) ?_
  go_wp2_with (fail)
  go_ret
  exact ⟨rfl, HB8.out⟩

theorem walk (A : Option Addr) (c : Nat) (l : List Int) (w : World) (hr : Kd.C (Kd.int .u8) w A l.length l) (hc : l.length ≤ c) (hw : ∀ n ∈ l, (Lit.int .u8 n).wf = true) (hy : l.length * 1 ≤ 140737488351232) :
    Calls Try.prog 8 #[.slice A l.length c] w fun e w' => e = .returned (.bool true) ∧ Below w.heap.size w w' := by
  have hb : Bytes (l.take 500) := fun x hx => by have := wf_u8 (hw x (List.mem_of_mem_take hx)); omega
  have h1 : (l.take 500).length ≤ 500 := by rw [List.length_take]; omega
  have h2 : (l.take 500).length ≤ c := by rw [List.length_take]; omega
  have h3 := C_take_any 500 hr
  by_cases h : (l.length : Int) > 500
  · have h4 : (l.take 500).length = 500 := by rw [List.length_take]; omega
    cases ht : takeM (l.take 500) with
    | none => exact long_none A c l _ w h3 hc h2 hb h1 h h4 ht
    | some x => exact long_some A c l _ w h3 hc h2 hb h1 h h4 x ht
  · have h4 : l.length = (l.take 500).length := by rw [List.length_take]; omega
    cases ht : takeM (l.take 500) with
    | none => exact all_none A c l _ w h3 hc h2 hb h1 h h4 ht
    | some x => exact all_some A c l _ w h3 hc h2 hb h1 h h4 x ht

end Go.Proofs.Ytlhimfkhcdpciaa.WIntsOne
