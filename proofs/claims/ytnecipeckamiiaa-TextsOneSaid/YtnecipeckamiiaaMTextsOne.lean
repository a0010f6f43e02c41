/-
  The walk of the law TextsOne: my texts, one behind the other (merge.py).
-/
import Derived.Test.YtnecipeckamiiaaMTake
/- WTextsOne: The walk of the law TextsOne. -/
namespace Go.Proofs.Ytnecipeckamiiaa.WTextsOne
open Go.RowKit Go.Proofs.YtnecipeckamiiaaW.PrintWords Go.Proofs.YtnecipeckamiiaaW.PrintLast Go.Proofs.YtnecipeckamiiaaW.PrintMore Go.Proofs.Ytnecipeckamiiaa.Num Go.Proofs.Ytnecipeckamiiaa.Bits Go.Proofs.Ytnecipeckamiiaa.VarM Go.Proofs.Ytnecipeckamiiaa.TextsT Go.Proofs.Ytnecipeckamiiaa.Hold Go.Proofs.Ytnecipeckamiiaa.HoldS Go.Proofs.Ytnecipeckamiiaa.KDict Go.Proofs.Ytnecipeckamiiaa.CDict Go.Proofs.Ytnecipeckamiiaa.CPutT Go.Proofs.Ytnecipeckamiiaa.CFewT Go.Proofs.Ytnecipeckamiiaa.CTakeT3
set_option linter.unusedVariables false
set_option linter.unusedSimpArgs false
attribute [local go_sem] max2_int min2_int max_two min_two max_three min_three max_four min_four

theorem and127 (n : Int) (h0 : 0 ≤ n) (h1 : n ≤ 255) : wrap64 (bits .and .u8 n 127) = n % 128 := by
  obtain ⟨m, rfl⟩ := Int.eq_ofNat_of_zero_le h0
  have hm : m < 256 := by omega
  clear h0 h1
  have h : ∀ k : Fin 256, wrap64 (bits .and .u8 ((k.val : Nat) : Int) 127) = ((k.val : Nat) : Int) % 128 := by decide +kernel
  exact h ⟨m, hm⟩
/-! ### one text -/
theorem put_one (s : ByteArray) (h : s.size ≤ 127) : put [s] = 1 :: 0 :: (s.size : Int) :: bytesOf s := by
  have hw : words [] [s] = [s] := by simp [words, more]
  have hp : wheres [] [s] = [0] := by simp [wheres, pv_small]
  have hd : dict [s] = 1 :: ((s.size : Int) :: bytesOf s) ++ [0] := by rw [dict, hw, hp]; simp [each, pv_small (show s.size < 128 by omega), pv_small]
  have he : each [s] = (s.size : Int) :: bytesOf s := by simp [each, pv_small (show s.size < 128 by omega)]
  rw [put, hd, he, if_neg (by simp; omega)]
  simp [pv_small]
theorem take_long (s : ByteArray) (h : s.size ≤ 127) (h2 : 60 < s.size) : takeM (put [s]) = none := by
  have hl := bytesOf_length s
  have hv : var (put [s]) = (1, 1) := by
    have := var_pv (y := 1) (l := put [s]) (by omega) ⟨0 :: (s.size : Int) :: bytesOf s, by rw [put_one s h, pv_small (by omega)]; rfl⟩
    rw [this, pv_small (by omega)]; rfl
  have hv2 : var ((s.size : Int) :: bytesOf s) = ((s.size : Int), 1) := by
    have := var_pv (y := s.size) (l := (s.size : Int) :: bytesOf s) (by omega) ⟨bytesOf s, by rw [pv_small (by omega)]; rfl⟩
    rw [this, pv_small (by omega)]; rfl
  have ht : takeL (put [s]) = none := by
    unfold takeL
    rw [hv, put_one s h]
    have e1 : ((1 : Int) :: 0 :: (s.size : Int) :: bytesOf s).getD (1 : Int).toNat 0 = 0 := rfl
    have e2 : ((1 : Int) :: 0 :: (s.size : Int) :: bytesOf s).drop ((1 : Int).toNat + 1) = (s.size : Int) :: bytesOf s := rfl
    simp only
    rw [e1, e2, if_neg (by omega)]
    show Option.map Prod.fst (eachR ((s.size : Int) :: bytesOf s) 1) = none
    rw [eachR]
    unfold textR
    rw [hv2, if_pos (by right; left; omega)]
    rfl
  unfold takeM
  split
  · rfl
  · rw [ht]; rfl

set_option maxHeartbeats 8000000 in
set_option maxRecDepth 100000 in
theorem long_none (A : Option Addr) (c : Nat) (l b : List Int) (n : Int) (w : World) (hr : Kd.C (Kd.int .u8) w A b.length b) (hl : l.length ≤ c) (hc : b.length ≤ c) (hb : Bytes b) (h500 : b.length ≤ 500) (n0 : 0 ≤ n) (n1 : n ≤ 255) (hlong : (l.length : Int) > 500) (hbl : b.length = 500) (ht : takeM b = none) :
    Calls Try.prog 8 #[.slice A l.length c, .int .u8 n] w fun e w' => e = .returned (.bool true) ∧ Below w.heap.size w w' := by
  have HT := Aside0.mk (fun W h => take_none A c b W h hc hb (by omega) ht)
  clear ht hb
  have HR := Aside0.mk hr
  have HB := Aside0.mk (Below.refl w.heap.size w)
  clear hr
  have hcut := cutTo (P := Try.prog) 25 5 Try.underlying25 CEach.info_u8 A l.length c 500 (by omega) (by omega) hl
  rw [show (500 : Int).toNat = b.length from by rw [hbl]; rfl] at hcut
  clear hbl
  go_enter Try.func8, Try.ntmps8
  go_wp2_with (fail)
  (with_reducible refine (shownC _).mono ?_); rintro e w1 ⟨rfl, hb⟩
  replace HB := Aside0.mk (below_step HB.out hb); replace HR := Aside0.mk (Kd.C_below HR.out hb); clear hb
  go_wp2_with (fail)
  refine (HT.out _ HR.out).mono ?_; rintro e w2 ⟨rfl, hb⟩
  have HB8 := Aside0.mk (below_step HB.out hb); clear hb HT HR HB
  go_wp2_with (fail)
  refine start_ (n := 23) (S := fun w' => True) (ds := []) #[false, false, false, false, false, false, false, false, false, false, false, false, false, false, false, false, false, false, false, false, false, false, false] (by kernel_rfl) rfl rfl trivial (fun hHeld => ?_)
  refine pure_ (i := 0) (N := some 23) (v := ?_) (a' := ?_) #[true, false, false, false, false, false, false, false, false, false, false, false, false, false, false, false, false, false, false, false, false, false, false] rfl rfl (by kernel_rfl) (fun _ _ _ h => h) (Or.inl ⟨by rfl, ?_⟩) ?_ ?_
  rotate_left
  · intro w'
    go_simp
    with_reducible rfl
  rotate_left
  · simp only [Act.put, List.setIfInBounds_toArray, List.set_cons_zero, List.set_cons_succ, i64_w, i32_w]
    rfl
  refine pure_ (i := 1) (N := some 24) (v := ?_) (a' := ?_) #[true, true, false, false, false, false, false, false, false, false, false, false, false, false, false, false, false, false, false, false, false, false, false] rfl rfl (by kernel_rfl) (fun _ _ _ h => h) (Or.inl ⟨by rfl, ?_⟩) ?_ ?_
  rotate_left
  · intro w'
    go_simp
    with_reducible rfl
  rotate_left
  · simp only [Act.put, List.setIfInBounds_toArray, List.set_cons_zero, List.set_cons_succ, i64_w, i32_w]
    rfl
  refine pure_ (i := 2) (N := some 25) (v := ?_) (a' := ?_) #[true, true, true, false, false, false, false, false, false, false, false, false, false, false, false, false, false, false, false, false, false, false, false] rfl rfl (by kernel_rfl) (fun _ _ _ h => h) (Or.inl ⟨by rfl, ?_⟩) ?_ ?_
  rotate_left
  · intro w'
    go_simp
    with_reducible rfl
  rotate_left
  · simp only [Act.put, List.setIfInBounds_toArray, List.set_cons_zero, List.set_cons_succ, i64_w, i32_w]
    rfl
  refine pure_ (i := 3) (N := some 26) (v := undef) (a' := ?_) #[true, true, true, true, false, false, false, false, false, false, false, false, false, false, false, false, false, false, false, false, false, false, false] rfl rfl (by kernel_rfl) (fun _ _ _ h => h) (Or.inr ⟨by rfl, rfl⟩) ?_ ?_
  rotate_left
  · simp only [Act.put, List.setIfInBounds_toArray, List.set_cons_zero, List.set_cons_succ, i64_w, i32_w]
    rfl
  refine pure_ (i := 4) (N := some 27) (v := undef) (a' := ?_) #[true, true, true, true, true, false, false, false, false, false, false, false, false, false, false, false, false, false, false, false, false, false, false] rfl rfl (by kernel_rfl) (fun _ _ _ h => h) (Or.inr ⟨by rfl, rfl⟩) ?_ ?_
  rotate_left
  · simp only [Act.put, List.setIfInBounds_toArray, List.set_cons_zero, List.set_cons_succ, i64_w, i32_w]
    rfl
  refine pure_ (i := 5) (N := some 28) (v := undef) (a' := ?_) #[true, true, true, true, true, true, false, false, false, false, false, false, false, false, false, false, false, false, false, false, false, false, false] rfl rfl (by kernel_rfl) (fun _ _ _ h => h) (Or.inr ⟨by rfl, rfl⟩) ?_ ?_
  rotate_left
  · simp only [Act.put, List.setIfInBounds_toArray, List.set_cons_zero, List.set_cons_succ, i64_w, i32_w]
    rfl
  refine pure_ (i := 6) (N := some 29) (v := undef) (a' := ?_) #[true, true, true, true, true, true, true, false, false, false, false, false, false, false, false, false, false, false, false, false, false, false, false] rfl rfl (by kernel_rfl) (fun _ _ _ h => h) (Or.inr ⟨by rfl, rfl⟩) ?_ ?_
  rotate_left
  · simp only [Act.put, List.setIfInBounds_toArray, List.set_cons_zero, List.set_cons_succ, i64_w, i32_w]
    rfl
  refine pure_ (i := 7) (N := some 30) (v := undef) (a' := ?_) #[true, true, true, true, true, true, true, true, false, false, false, false, false, false, false, false, false, false, false, false, false, false, false] rfl rfl (by kernel_rfl) (fun _ _ _ h => h) (Or.inr ⟨by rfl, rfl⟩) ?_ ?_
  rotate_left
  · simp only [Act.put, List.setIfInBounds_toArray, List.set_cons_zero, List.set_cons_succ, i64_w, i32_w]
    rfl
  refine pure_ (i := 8) (N := some 31) (v := undef) (a' := ?_) #[true, true, true, true, true, true, true, true, true, false, false, false, false, false, false, false, false, false, false, false, false, false, false] rfl rfl (by kernel_rfl) (fun _ _ _ h => h) (Or.inr ⟨by rfl, rfl⟩) ?_ ?_
  rotate_left
  · simp only [Act.put, List.setIfInBounds_toArray, List.set_cons_zero, List.set_cons_succ, i64_w, i32_w]
    rfl
  refine pure_ (i := 9) (N := some 32) (v := ?_) (a' := ?_) #[true, true, true, true, true, true, true, true, true, true, false, false, false, false, false, false, false, false, false, false, false, false, false] rfl rfl (by kernel_rfl) (fun _ _ _ h => h) (Or.inl ⟨by rfl, ?_⟩) ?_ ?_
  rotate_left
  · intro w'
    go_simp
    with_reducible rfl
  rotate_left
  · simp only [Act.put, List.setIfInBounds_toArray, List.set_cons_zero, List.set_cons_succ, i64_w, i32_w]
    rfl
  refine pure_ (i := 10) (N := some 33) (v := ?_) (a' := ?_) #[true, true, true, true, true, true, true, true, true, true, true, false, false, false, false, false, false, false, false, false, false, false, false] rfl rfl (by kernel_rfl) (fun _ _ _ h => h) (Or.inl ⟨by rfl, ?_⟩) ?_ ?_
  rotate_left
  · intro w'
    go_simp
    with_reducible rfl
  rotate_left
  · simp only [Act.put, List.setIfInBounds_toArray, List.set_cons_zero, List.set_cons_succ, i64_w, i32_w]
    rfl
  refine pure_ (i := 11) (N := some 34) (v := ?_) (a' := ?_) #[true, true, true, true, true, true, true, true, true, true, true, true, false, false, false, false, false, false, false, false, false, false, false] rfl rfl (by kernel_rfl) (fun _ _ _ h => h) (Or.inl ⟨by rfl, ?_⟩) ?_ ?_
  rotate_left
  · intro w'
    go_simp
    with_reducible rfl
  rotate_left
  · simp only [Act.put, List.setIfInBounds_toArray, List.set_cons_zero, List.set_cons_succ, i64_w, i32_w]
    rfl
  refine pure_ (i := 12) (N := some 35) (v := ?_) (a' := ?_) #[true, true, true, true, true, true, true, true, true, true, true, true, true, false, false, false, false, false, false, false, false, false, false] rfl rfl (by kernel_rfl) (fun _ _ _ h => h) (Or.inl ⟨by rfl, ?_⟩) ?_ ?_
  rotate_left
  · intro w'
    go_simp
    with_reducible rfl
  rotate_left
  · simp only [Act.put, List.setIfInBounds_toArray, List.set_cons_zero, List.set_cons_succ, i64_w, i32_w]
    rfl
  refine pure_ (i := 13) (N := some 36) (v := ?_) (a' := ?_) #[true, true, true, true, true, true, true, true, true, true, true, true, true, true, false, false, false, false, false, false, false, false, false] rfl rfl (by kernel_rfl) (fun _ _ _ h => h) (Or.inl ⟨by rfl, ?_⟩) ?_ ?_
  rotate_left
  · intro w'
    go_simp
    with_reducible rfl
  rotate_left
  · simp only [Act.put, List.setIfInBounds_toArray, List.set_cons_zero, List.set_cons_succ, i64_w, i32_w]
    rfl
  refine pure_ (i := 14) (N := some 37) (v := ?_) (a' := ?_) #[true, true, true, true, true, true, true, true, true, true, true, true, true, true, true, false, false, false, false, false, false, false, false] rfl rfl (by kernel_rfl) (fun _ _ _ h => h) (Or.inl ⟨by rfl, ?_⟩) ?_ ?_
  rotate_left
  · intro w'
    go_simp
    with_reducible rfl
  rotate_left
  · simp only [Act.put, List.setIfInBounds_toArray, List.set_cons_zero, List.set_cons_succ, i64_w, i32_w]
    rfl
  refine pure_ (i := 15) (N := some 38) (v := ?_) (a' := ?_) #[true, true, true, true, true, true, true, true, true, true, true, true, true, true, true, true, false, false, false, false, false, false, false] rfl rfl (by kernel_rfl) (fun _ _ _ h => h) (Or.inl ⟨by rfl, ?_⟩) ?_ ?_
  rotate_left
  · intro w'
    go_simp
    with_reducible rfl
  rotate_left
  · simp only [Act.put, List.setIfInBounds_toArray, List.set_cons_zero, List.set_cons_succ, i64_w, i32_w]
    rfl
  refine pure_ (i := 16) (N := some 39) (v := ?_) (a' := ?_) #[true, true, true, true, true, true, true, true, true, true, true, true, true, true, true, true, true, false, false, false, false, false, false] rfl rfl (by kernel_rfl) (fun _ _ _ h => h) (Or.inl ⟨by rfl, ?_⟩) ?_ ?_
  rotate_left
  · intro w'
    go_simp
    with_reducible rfl
  rotate_left
  · simp only [Act.put, List.setIfInBounds_toArray, List.set_cons_zero, List.set_cons_succ, i64_w, i32_w]
    rfl
  refine pure_ (i := 17) (N := some 40) (v := ?_) (a' := ?_) #[true, true, true, true, true, true, true, true, true, true, true, true, true, true, true, true, true, true, false, false, false, false, false] rfl rfl (by kernel_rfl) (fun _ _ _ h => h) (Or.inl ⟨by rfl, ?_⟩) ?_ ?_
  rotate_left
  · intro w'
    go_simp
    with_reducible rfl
  rotate_left
  · simp only [Act.put, List.setIfInBounds_toArray, List.set_cons_zero, List.set_cons_succ, i64_w, i32_w]
    rfl
  refine pure_ (i := 18) (N := some 41) (v := ?_) (a' := ?_) #[true, true, true, true, true, true, true, true, true, true, true, true, true, true, true, true, true, true, true, false, false, false, false] rfl rfl (by kernel_rfl) (fun _ _ _ h => h) (Or.inl ⟨by rfl, ?_⟩) ?_ ?_
  rotate_left
  · intro w'
    go_simp
    with_reducible rfl
  rotate_left
  · simp only [Act.put, List.setIfInBounds_toArray, List.set_cons_zero, List.set_cons_succ, i64_w, i32_w]
    rfl
  refine pure_ (i := 19) (N := some 42) (v := ?_) (a' := ?_) #[true, true, true, true, true, true, true, true, true, true, true, true, true, true, true, true, true, true, true, true, false, false, false] rfl rfl (by kernel_rfl) (fun _ _ _ h => h) (Or.inl ⟨by rfl, ?_⟩) ?_ ?_
  rotate_left
  · intro w'
    go_simp
    with_reducible rfl
  rotate_left
  · simp only [Act.put, List.setIfInBounds_toArray, List.set_cons_zero, List.set_cons_succ, i64_w, i32_w]
    rfl
  refine pure_ (i := 20) (N := some 43) (v := ?_) (a' := ?_) #[true, true, true, true, true, true, true, true, true, true, true, true, true, true, true, true, true, true, true, true, true, false, false] rfl rfl (by kernel_rfl) (fun _ _ _ h => h) (Or.inl ⟨by rfl, ?_⟩) ?_ ?_
  rotate_left
  · intro w'
    go_simp
    with_reducible rfl
  rotate_left
  · simp only [Act.put, List.setIfInBounds_toArray, List.set_cons_zero, List.set_cons_succ, i64_w, i32_w]
    rfl
  refine pure_ (i := 21) (N := some 44) (v := ?_) (a' := ?_) #[true, true, true, true, true, true, true, true, true, true, true, true, true, true, true, true, true, true, true, true, true, true, false] rfl rfl (by kernel_rfl) (fun _ _ _ h => h) (Or.inl ⟨by rfl, ?_⟩) ?_ ?_
  rotate_left
  · intro w'
    go_simp
    with_reducible rfl
  rotate_left
  · simp only [Act.put, List.setIfInBounds_toArray, List.set_cons_zero, List.set_cons_succ, i64_w, i32_w]
    rfl
  refine pure_ (i := 22) (N := some 45) (v := ?_) (a' := ?_) #[true, true, true, true, true, true, true, true, true, true, true, true, true, true, true, true, true, true, true, true, true, true, true] rfl rfl (by kernel_rfl) (fun _ _ _ h => h) (Or.inl ⟨by rfl, ?_⟩) ?_ ?_
  rotate_left
  · intro w'
    go_simp
    with_reducible rfl
  rotate_left
  · simp only [Act.put, List.setIfInBounds_toArray, List.set_cons_zero, List.set_cons_succ, i64_w, i32_w]
    rfl
  refine done_ (by kernel_rfl) ?_
  replace HB8 := Aside0.mk (below_drew HB8.out)
  generalize w2.drew = w8 at *
  obtain ⟨N, hN⟩ : ∃ N : Nat, n % 128 = (N : Int) := ⟨(n % 128).toNat, by omega⟩
  have hN1 : N ≤ 127 := by omega
  have HNW : Aside0 (wrap64 (bits .and .u8 n 127) = (N : Int)) := ⟨by rw [and127 n n0 n1, hN]⟩
  clear hN
  go_wp2_with (fail)
  go_loop [8, 9] (fun v8 v9 => ∃ (i : Nat) (S : ByteArray), v9 = .int .i64 i ∧ i ≤ N ∧ v8 = .string S ∧ Aside0 (S.size = i)) (fun _ v9 => N - (intOf v9).toNat)
  case atStart => exact ⟨0, ByteArray.empty, by go_num, by omega, rfl, ⟨rfl⟩⟩
  case round =>
    obtain ⟨i, S, rfl, hin, rfl, hS⟩ := hrel
    have hNr := HNW.out
    by_cases hi : i < N
    · have hiI : (i : Int) < (N : Int) := by omega
      have hz1 : (9223372036854775807 < S.size + 1) = False := eq_false (by have := hS.out; omega)
      have HZ := Aside0.mk hz1
      clear hz1
      have hz1 := HZ.out
      go_wp2_with (fail)
      clear hz1
      go_round
      case rel => exact ⟨i + 1, _, by go_num, by omega, rfl, ⟨by rw [ByteArray.size_append, hS.out]; rfl⟩⟩
      case measure => simp [intOf]; omega
    · obtain rfl : i = N := by omega
      have HC : Aside0 (Kd.C Kd.string (w8.alloc (.cells #[.string S] 9)) (some ⟨w8.heap.size, 0, none⟩) [S].length [S]) := by
        have h := World.ownsRow_lit (base := w8.heap.size) (e := 9) (size := 1) w8 #[.string S] 1 (Nat.le_refl _) (by simp [maxLen]) (by simp)
        have h2 : Kd.R Kd.string 9 (w8.alloc (.cells #[.string S] 9)) w8.heap.size (fun _ => True) (.slice (some ⟨w8.heap.size, 0, none⟩) 1 1) [S] := Kd.R_of_own (enc := Value.string) h (fun _ _ => trivial)
        exact ⟨(Kd.R_reads' h2).2.2⟩
      have hPl : (put [S]).length ≤ 1000 := by rw [put_one S (by have := hS.out; omega)]; simp only [List.length_cons, bytesOf_length]; have := hS.out; omega
      have HPl := Aside0.mk hPl
      clear hPl
      go_wp2_with (fail)
      refine (putC (some ⟨w8.heap.size, 0, none⟩) 1 [S] _ HC.out (by simp) (by simp) (by intro s hs; simp at hs; subst hs; have := hS.out; omega)).mono ?_; rintro e w9 ⟨v, rfl, ho, hb⟩
      obtain ⟨Ap, cp, rfl, lp, hpp⟩ := R_C ho
      have HB9 := Aside0.mk (below_step HB8.out (below_then (below_alloc (Below.refl w8.heap.size w8) _) (by simp) hb))
      have HPP := Aside0.mk hpp
      clear ho hb hpp
      by_cases h60 : i ≤ 60
      · have HT9 := Aside0.mk (take_some Ap cp (put [S]) w9 HPP.out lp (put_Bytes _) (by have := HPl.out; omega) [S] (takeM_put [S] (by intro s hs; simp at hs; subst hs; have := hS.out; omega) (by simp)))
        generalize put [S] = PS at *
        go_wp2_with (fail)
        refine (HT9.out).mono ?_; rintro e w10 ⟨Ay, cy, rfl, ly, hy, hb⟩
        have HB10 := Aside0.mk (below_step HB9.out hb)
        obtain ⟨ay, e1, hcell⟩ := Kd.at_string hy (0 : Int) (by omega) (by simp)
        subst e1
        have hcell0 : w10.cell? ay = some (.string S) := by simpa [Addr.add, rdOf] using hcell
        clear hy hb hcell
        have hsz := hS.out
        have hle : decide ((i : Int) ≤ 60) = true := decide_eq_true (by omega)
        have hle2 : decide (i ≤ 60) = true := decide_eq_true h60
        go_wp2_with (fail)
        go_ret
        exact ⟨rfl, HB10.out⟩
      · have HT9 := Aside0.mk (take_none Ap cp (put [S]) w9 HPP.out lp (put_Bytes _) (by have := HPl.out; omega) (take_long S (by have := hS.out; omega) (by have := hS.out; omega)))
        generalize put [S] = PS at *
        go_wp2_with (fail)
        refine (HT9.out).mono ?_; rintro e w10 ⟨rfl, hb⟩
        have HB10 := Aside0.mk (below_step HB9.out hb)
        clear hb
        have hsz := hS.out
        have hle : decide ((i : Int) ≤ 60) = false := decide_eq_false (by omega)
        have hle2 : decide (i ≤ 60) = false := decide_eq_false h60
        go_wp2_with (fail)
        go_ret
        exact ⟨rfl, HB10.out⟩

set_option maxHeartbeats 8000000 in
set_option maxRecDepth 100000 in
theorem long_some (A : Option Addr) (c : Nat) (l b : List Int) (n : Int) (w : World) (hr : Kd.C (Kd.int .u8) w A b.length b) (hl : l.length ≤ c) (hc : b.length ≤ c) (hb : Bytes b) (h500 : b.length ≤ 500) (n0 : 0 ≤ n) (n1 : n ≤ 255) (hlong : (l.length : Int) > 500) (hbl : b.length = 500) (x : List ByteArray) (ht : takeM b = some x) :
    Calls Try.prog 8 #[.slice A l.length c, .int .u8 n] w fun e w' => e = .returned (.bool true) ∧ Below w.heap.size w w' := by
  have HT := Aside0.mk (fun W h => take_some A c b W h hc hb (by omega) x ht)
  have hput := (takeM_some ht).1
  have hx := (takeM_some ht).2.1
  have hsx := (takeL_size (takeM_some ht).2.2).2
  have HSX : Aside0 (∀ s ∈ x, s.size ≤ 1000) := ⟨fun s h => by have := hsx s h; omega⟩
  have HP := Aside0.mk hput
  clear hput hsx
  clear ht hb
  have HR := Aside0.mk hr
  have HB := Aside0.mk (Below.refl w.heap.size w)
  clear hr
  have hcut := cutTo (P := Try.prog) 25 5 Try.underlying25 CEach.info_u8 A l.length c 500 (by omega) (by omega) hl
  rw [show (500 : Int).toNat = b.length from by rw [hbl]; rfl] at hcut
  clear hbl
  go_enter Try.func8, Try.ntmps8
  go_wp2_with (fail)
  (with_reducible refine (shownC _).mono ?_); rintro e w1 ⟨rfl, hb⟩
  replace HB := Aside0.mk (below_step HB.out hb); replace HR := Aside0.mk (Kd.C_below HR.out hb); clear hb
  go_wp2_with (fail)
  refine (HT.out _ HR.out).mono ?_; rintro e w2 ⟨Ax, cx, rfl, lx, hx2, hb⟩
  have HX := Aside0.mk hx2
  have HS : Aside0 (∀ W, Below w2.heap.size w2 W → (convert 25 9 (.slice A b.length c)).run Try.prog W = .ok (.string (strOfNums b)) W) := by
    have h1 := Kd.C_below HR.out hb
    exact ⟨fun W hW => toStr1 (P := Try.prog) c Try.underlying25 Try.underlying5 Try.underlying9 (Kd.C_below h1 hW)⟩
  replace HB := Aside0.mk (below_step HB.out hb); clear hb hx2
  have hs1 := HS.out _ (below_drew (Below.refl _ _))
  go_wp2_with (fail)
  refine start_ (n := 23) (S := fun w' => (convert 25 9 (.slice A b.length c)).run Try.prog w' = .ok (.string (strOfNums b)) w') (ds := []) #[false, false, false, false, false, false, false, false, false, false, false, false, false, false, false, false, false, false, false, false, false, false, false] (by kernel_rfl) rfl rfl (hs1) (fun hHeld => ?_)
  refine pure_ (i := 0) (N := some 23) (v := ?_) (a' := ?_) #[true, false, false, false, false, false, false, false, false, false, false, false, false, false, false, false, false, false, false, false, false, false, false] rfl rfl (by kernel_rfl) (fun _ _ _ h => h) (Or.inl ⟨by rfl, ?_⟩) ?_ ?_
  rotate_left
  · intro w'
    go_simp
    with_reducible rfl
  rotate_left
  · simp only [Act.put, List.setIfInBounds_toArray, List.set_cons_zero, List.set_cons_succ, i64_w, i32_w]
    rfl
  refine pure_ (i := 1) (N := some 24) (v := ?_) (a' := ?_) #[true, true, false, false, false, false, false, false, false, false, false, false, false, false, false, false, false, false, false, false, false, false, false] rfl rfl (by kernel_rfl) (fun _ _ _ h => h) (Or.inl ⟨by rfl, ?_⟩) ?_ ?_
  rotate_left
  · intro w'
    go_simp
    with_reducible rfl
  rotate_left
  · simp only [Act.put, List.setIfInBounds_toArray, List.set_cons_zero, List.set_cons_succ, i64_w, i32_w]
    rfl
  refine pure_ (i := 2) (N := some 25) (v := ?_) (a' := ?_) #[true, true, true, false, false, false, false, false, false, false, false, false, false, false, false, false, false, false, false, false, false, false, false] rfl rfl (by kernel_rfl) (fun _ _ _ h => h) (Or.inl ⟨by rfl, ?_⟩) ?_ ?_
  rotate_left
  · intro w'
    go_simp
    with_reducible rfl
  rotate_left
  · simp only [Act.put, List.setIfInBounds_toArray, List.set_cons_zero, List.set_cons_succ, i64_w, i32_w]
    rfl
  refine pure_ (i := 3) (N := some 26) (v := ?_) (a' := ?_) #[true, true, true, true, false, false, false, false, false, false, false, false, false, false, false, false, false, false, false, false, false, false, false] rfl rfl (by kernel_rfl) (fun _ _ _ h => h) (Or.inl ⟨by rfl, ?_⟩) ?_ ?_
  rotate_left
  · intro w'
    go_simp
    with_reducible rfl
  rotate_left
  · simp only [Act.put, List.setIfInBounds_toArray, List.set_cons_zero, List.set_cons_succ, i64_w, i32_w]
    rfl
  refine pure_ (i := 6) (N := some 29) (v := ?_) (a' := ?_) #[true, true, true, true, false, false, true, false, false, false, false, false, false, false, false, false, false, false, false, false, false, false, false] rfl rfl (by kernel_rfl) (fun _ _ _ h => h) (Or.inl ⟨by rfl, ?_⟩) ?_ ?_
  rotate_left
  · intro w'
    go_simp
    with_reducible rfl
  rotate_left
  · simp only [Act.put, List.setIfInBounds_toArray, List.set_cons_zero, List.set_cons_succ, i64_w, i32_w]
    rfl
  refine take_ (i := 7) (N := some 30) (v := ?_) (a' := ?_) #[true, true, true, true, false, false, true, true, false, false, false, false, false, false, false, false, false, false, false, false, false, false, false] rfl rfl (by kernel_rfl) (fun _ _ _ h => h) (Or.inl ⟨by rfl, ?_⟩) hHeld ?_ ?_
  rotate_left
  · intro w' s0
    go_simp
    with_reducible rfl
  rotate_left
  · simp only [Act.put, List.setIfInBounds_toArray, List.set_cons_zero, List.set_cons_succ, i64_w, i32_w]
    rfl
  refine one_ (i := 4) (N := some 27) #[true, true, true, true, true, false, true, true, false, false, false, false, false, false, false, false, false, false, false, false, false, false, false] rfl rfl (by kernel_rfl) (by decide) (fun K hK => ?_)
  refine goes_ Try.func13 (by kernel_rfl) rfl #[.slice Ax x.length cx] (by rfl) rfl rfl (by simp only [List.map_toArray, List.map_cons, List.map_nil]; rfl) ?_
  refine (putC Ax cx x _ (Kd.C_drew HX.out) lx (by omega) HSX.out).mono ?_
  rintro e w8 ⟨v, rfl, ho, hb2⟩
  refine ⟨_, rfl, ?_⟩
  rw [HP.out] at ho
  obtain ⟨Ab, cb, rfl, lb, ho⟩ := R_C ho
  have s8 := toStr1 (P := Try.prog) cb Try.underlying25 Try.underlying5 Try.underlying9 ho
  have hs1 := HS.out _ (below_step (below_drew (Below.refl _ _)) hb2)
  have HB8 := Aside0.mk (below_step (below_drew HB.out) hb2)
  clear ho hb2
  refine hK.out _ _ (hs1) (fun hHeld => ?_)
  clear hK K
  refine norm_ (a' := ?_) ?_ ?_
  rotate_left
  · show Act.put _ (some 27) _ = _
    simp only [Act.put, List.setIfInBounds_toArray, List.set_cons_zero, List.set_cons_succ, i64_w, i32_w]
    rfl
  refine one_ (i := 5) (N := some 28) #[true, true, true, true, true, true, true, true, false, false, false, false, false, false, false, false, false, false, false, false, false, false, false] rfl rfl (by kernel_rfl) (by decide) (fun K hK => ?_)
  refine value_ (w1 := ?_) (v := ?_) (by rfl) rfl ?_ ?_
  rotate_left 2
  · go_simp
    constructor
    · rfl
    · rfl
  refine hK.out _ _ (hs1) (fun hHeld => ?_)
  clear hK K
  refine norm_ (a' := ?_) ?_ ?_
  rotate_left
  · show Act.put _ (some 28) _ = _
    simp only [Act.put, List.setIfInBounds_toArray, List.set_cons_zero, List.set_cons_succ, i64_w, i32_w]
    rfl
  refine pure_ (i := 8) (N := some 31) (v := ?_) (a' := ?_) #[true, true, true, true, true, true, true, true, true, false, false, false, false, false, false, false, false, false, false, false, false, false, false] rfl rfl (by kernel_rfl) (fun _ _ _ h => h) (Or.inl ⟨by rfl, ?_⟩) ?_ ?_
  rotate_left
  · intro w'
    go_simp
    with_reducible rfl
  rotate_left
  · simp only [Act.put, List.setIfInBounds_toArray, List.set_cons_zero, List.set_cons_succ, i64_w, i32_w]
    rfl
  refine pure_ (i := 9) (N := some 32) (v := ?_) (a' := ?_) #[true, true, true, true, true, true, true, true, true, true, false, false, false, false, false, false, false, false, false, false, false, false, false] rfl rfl (by kernel_rfl) (fun _ _ _ h => h) (Or.inl ⟨by rfl, ?_⟩) ?_ ?_
  rotate_left
  · intro w'
    go_simp
    with_reducible rfl
  rotate_left
  · simp only [Act.put, List.setIfInBounds_toArray, List.set_cons_zero, List.set_cons_succ, i64_w, i32_w]
    rfl
  refine pure_ (i := 10) (N := some 33) (v := ?_) (a' := ?_) #[true, true, true, true, true, true, true, true, true, true, true, false, false, false, false, false, false, false, false, false, false, false, false] rfl rfl (by kernel_rfl) (fun _ _ _ h => h) (Or.inl ⟨by rfl, ?_⟩) ?_ ?_
  rotate_left
  · intro w'
    go_simp
    with_reducible rfl
  rotate_left
  · simp only [Act.put, List.setIfInBounds_toArray, List.set_cons_zero, List.set_cons_succ, i64_w, i32_w]
    rfl
  refine pure_ (i := 11) (N := some 34) (v := ?_) (a' := ?_) #[true, true, true, true, true, true, true, true, true, true, true, true, false, false, false, false, false, false, false, false, false, false, false] rfl rfl (by kernel_rfl) (fun _ _ _ h => h) (Or.inl ⟨by rfl, ?_⟩) ?_ ?_
  rotate_left
  · intro w'
    go_simp
    with_reducible rfl
  rotate_left
  · simp only [Act.put, List.setIfInBounds_toArray, List.set_cons_zero, List.set_cons_succ, i64_w, i32_w]
    rfl
  refine pure_ (i := 12) (N := some 35) (v := ?_) (a' := ?_) #[true, true, true, true, true, true, true, true, true, true, true, true, true, false, false, false, false, false, false, false, false, false, false] rfl rfl (by kernel_rfl) (fun _ _ _ h => h) (Or.inl ⟨by rfl, ?_⟩) ?_ ?_
  rotate_left
  · intro w'
    go_simp
    with_reducible rfl
  rotate_left
  · simp only [Act.put, List.setIfInBounds_toArray, List.set_cons_zero, List.set_cons_succ, i64_w, i32_w]
    rfl
  refine pure_ (i := 13) (N := some 36) (v := ?_) (a' := ?_) #[true, true, true, true, true, true, true, true, true, true, true, true, true, true, false, false, false, false, false, false, false, false, false] rfl rfl (by kernel_rfl) (fun _ _ _ h => h) (Or.inl ⟨by rfl, ?_⟩) ?_ ?_
  rotate_left
  · intro w'
    go_simp
    with_reducible rfl
  rotate_left
  · simp only [Act.put, List.setIfInBounds_toArray, List.set_cons_zero, List.set_cons_succ, i64_w, i32_w]
    rfl
  refine pure_ (i := 14) (N := some 37) (v := undef) (a' := ?_) #[true, true, true, true, true, true, true, true, true, true, true, true, true, true, true, false, false, false, false, false, false, false, false] rfl rfl (by kernel_rfl) (fun _ _ _ h => h) (Or.inr ⟨by rfl, rfl⟩) ?_ ?_
  rotate_left
  · simp only [Act.put, List.setIfInBounds_toArray, List.set_cons_zero, List.set_cons_succ, i64_w, i32_w]
    rfl
  refine pure_ (i := 15) (N := some 38) (v := undef) (a' := ?_) #[true, true, true, true, true, true, true, true, true, true, true, true, true, true, true, true, false, false, false, false, false, false, false] rfl rfl (by kernel_rfl) (fun _ _ _ h => h) (Or.inr ⟨by rfl, rfl⟩) ?_ ?_
  rotate_left
  · simp only [Act.put, List.setIfInBounds_toArray, List.set_cons_zero, List.set_cons_succ, i64_w, i32_w]
    rfl
  refine pure_ (i := 16) (N := some 39) (v := undef) (a' := ?_) #[true, true, true, true, true, true, true, true, true, true, true, true, true, true, true, true, true, false, false, false, false, false, false] rfl rfl (by kernel_rfl) (fun _ _ _ h => h) (Or.inr ⟨by rfl, rfl⟩) ?_ ?_
  rotate_left
  · simp only [Act.put, List.setIfInBounds_toArray, List.set_cons_zero, List.set_cons_succ, i64_w, i32_w]
    rfl
  refine pure_ (i := 17) (N := some 40) (v := undef) (a' := ?_) #[true, true, true, true, true, true, true, true, true, true, true, true, true, true, true, true, true, true, false, false, false, false, false] rfl rfl (by kernel_rfl) (fun _ _ _ h => h) (Or.inr ⟨by rfl, rfl⟩) ?_ ?_
  rotate_left
  · simp only [Act.put, List.setIfInBounds_toArray, List.set_cons_zero, List.set_cons_succ, i64_w, i32_w]
    rfl
  refine pure_ (i := 18) (N := some 41) (v := undef) (a' := ?_) #[true, true, true, true, true, true, true, true, true, true, true, true, true, true, true, true, true, true, true, false, false, false, false] rfl rfl (by kernel_rfl) (fun _ _ _ h => h) (Or.inr ⟨by rfl, rfl⟩) ?_ ?_
  rotate_left
  · simp only [Act.put, List.setIfInBounds_toArray, List.set_cons_zero, List.set_cons_succ, i64_w, i32_w]
    rfl
  refine pure_ (i := 19) (N := some 42) (v := undef) (a' := ?_) #[true, true, true, true, true, true, true, true, true, true, true, true, true, true, true, true, true, true, true, true, false, false, false] rfl rfl (by kernel_rfl) (fun _ _ _ h => h) (Or.inr ⟨by rfl, rfl⟩) ?_ ?_
  rotate_left
  · simp only [Act.put, List.setIfInBounds_toArray, List.set_cons_zero, List.set_cons_succ, i64_w, i32_w]
    rfl
  refine pure_ (i := 20) (N := some 43) (v := undef) (a' := ?_) #[true, true, true, true, true, true, true, true, true, true, true, true, true, true, true, true, true, true, true, true, true, false, false] rfl rfl (by kernel_rfl) (fun _ _ _ h => h) (Or.inr ⟨by rfl, rfl⟩) ?_ ?_
  rotate_left
  · simp only [Act.put, List.setIfInBounds_toArray, List.set_cons_zero, List.set_cons_succ, i64_w, i32_w]
    rfl
  refine pure_ (i := 21) (N := some 44) (v := ?_) (a' := ?_) #[true, true, true, true, true, true, true, true, true, true, true, true, true, true, true, true, true, true, true, true, true, true, false] rfl rfl (by kernel_rfl) (fun _ _ _ h => h) (Or.inl ⟨by rfl, ?_⟩) ?_ ?_
  rotate_left
  · intro w'
    go_simp
    with_reducible rfl
  rotate_left
  · simp only [Act.put, List.setIfInBounds_toArray, List.set_cons_zero, List.set_cons_succ, i64_w, i32_w]
    rfl
  refine pure_ (i := 22) (N := some 45) (v := ?_) (a' := ?_) #[true, true, true, true, true, true, true, true, true, true, true, true, true, true, true, true, true, true, true, true, true, true, true] rfl rfl (by kernel_rfl) (fun _ _ _ h => h) (Or.inl ⟨by rfl, ?_⟩) ?_ ?_
  rotate_left
  · intro w'
    go_simp
    with_reducible rfl
  rotate_left
  · simp only [Act.put, List.setIfInBounds_toArray, List.set_cons_zero, List.set_cons_succ, i64_w, i32_w]
    rfl
  refine done_ (by kernel_rfl) ?_
  obtain ⟨N, hN⟩ : ∃ N : Nat, n % 128 = (N : Int) := ⟨(n % 128).toNat, by omega⟩
  have hN1 : N ≤ 127 := by omega
  have HNW : Aside0 (wrap64 (bits .and .u8 n 127) = (N : Int)) := ⟨by rw [and127 n n0 n1, hN]⟩
  clear hN
  go_wp2_with (fail)
  go_loop [8, 9] (fun v8 v9 => ∃ (i : Nat) (S : ByteArray), v9 = .int .i64 i ∧ i ≤ N ∧ v8 = .string S ∧ Aside0 (S.size = i)) (fun _ v9 => N - (intOf v9).toNat)
  case atStart => exact ⟨0, ByteArray.empty, by go_num, by omega, rfl, ⟨rfl⟩⟩
  case round =>
    obtain ⟨i, S, rfl, hin, rfl, hS⟩ := hrel
    have hNr := HNW.out
    by_cases hi : i < N
    · have hiI : (i : Int) < (N : Int) := by omega
      have hz1 : (9223372036854775807 < S.size + 1) = False := eq_false (by have := hS.out; omega)
      have HZ := Aside0.mk hz1
      clear hz1
      have hz1 := HZ.out
      go_wp2_with (fail)
      clear hz1
      go_round
      case rel => exact ⟨i + 1, _, by go_num, by omega, rfl, ⟨by rw [ByteArray.size_append, hS.out]; rfl⟩⟩
      case measure => simp [intOf]; omega
    · obtain rfl : i = N := by omega
      have HC : Aside0 (Kd.C Kd.string (w8.alloc (.cells #[.string S] 9)) (some ⟨w8.heap.size, 0, none⟩) [S].length [S]) := by
        have h := World.ownsRow_lit (base := w8.heap.size) (e := 9) (size := 1) w8 #[.string S] 1 (Nat.le_refl _) (by simp [maxLen]) (by simp)
        have h2 : Kd.R Kd.string 9 (w8.alloc (.cells #[.string S] 9)) w8.heap.size (fun _ => True) (.slice (some ⟨w8.heap.size, 0, none⟩) 1 1) [S] := Kd.R_of_own (enc := Value.string) h (fun _ _ => trivial)
        exact ⟨(Kd.R_reads' h2).2.2⟩
      have hPl : (put [S]).length ≤ 1000 := by rw [put_one S (by have := hS.out; omega)]; simp only [List.length_cons, bytesOf_length]; have := hS.out; omega
      have HPl := Aside0.mk hPl
      clear hPl
      go_wp2_with (fail)
      refine (putC (some ⟨w8.heap.size, 0, none⟩) 1 [S] _ HC.out (by simp) (by simp) (by intro s hs; simp at hs; subst hs; have := hS.out; omega)).mono ?_; rintro e w9 ⟨v, rfl, ho, hb⟩
      obtain ⟨Ap, cp, rfl, lp, hpp⟩ := R_C ho
      have HB9 := Aside0.mk (below_step HB8.out (below_then (below_alloc (Below.refl w8.heap.size w8) _) (by simp) hb))
      have HPP := Aside0.mk hpp
      clear ho hb hpp
      by_cases h60 : i ≤ 60
      · have HT9 := Aside0.mk (take_some Ap cp (put [S]) w9 HPP.out lp (put_Bytes _) (by have := HPl.out; omega) [S] (takeM_put [S] (by intro s hs; simp at hs; subst hs; have := hS.out; omega) (by simp)))
        generalize put [S] = PS at *
        go_wp2_with (fail)
        refine (HT9.out).mono ?_; rintro e w10 ⟨Ay, cy, rfl, ly, hy, hb⟩
        have HB10 := Aside0.mk (below_step HB9.out hb)
        obtain ⟨ay, e1, hcell⟩ := Kd.at_string hy (0 : Int) (by omega) (by simp)
        subst e1
        have hcell0 : w10.cell? ay = some (.string S) := by simpa [Addr.add, rdOf] using hcell
        clear hy hb hcell
        have hsz := hS.out
        have hle : decide ((i : Int) ≤ 60) = true := decide_eq_true (by omega)
        have hle2 : decide (i ≤ 60) = true := decide_eq_true h60
        go_wp2_with (fail)
        go_ret
        exact ⟨rfl, HB10.out⟩
      · have HT9 := Aside0.mk (take_none Ap cp (put [S]) w9 HPP.out lp (put_Bytes _) (by have := HPl.out; omega) (take_long S (by have := hS.out; omega) (by have := hS.out; omega)))
        generalize put [S] = PS at *
        go_wp2_with (fail)
        refine (HT9.out).mono ?_; rintro e w10 ⟨rfl, hb⟩
        have HB10 := Aside0.mk (below_step HB9.out hb)
        clear hb
        have hsz := hS.out
        have hle : decide ((i : Int) ≤ 60) = false := decide_eq_false (by omega)
        have hle2 : decide (i ≤ 60) = false := decide_eq_false h60
        go_wp2_with (fail)
        go_ret
        exact ⟨rfl, HB10.out⟩

set_option maxHeartbeats 8000000 in
set_option maxRecDepth 100000 in
theorem all_none (A : Option Addr) (c : Nat) (l b : List Int) (n : Int) (w : World) (hr : Kd.C (Kd.int .u8) w A b.length b) (hl : l.length ≤ c) (hc : b.length ≤ c) (hb : Bytes b) (h500 : b.length ≤ 500) (n0 : 0 ≤ n) (n1 : n ≤ 255) (hlong : ¬ (l.length : Int) > 500) (hbl : l.length = b.length) (ht : takeM b = none) :
    Calls Try.prog 8 #[.slice A l.length c, .int .u8 n] w fun e w' => e = .returned (.bool true) ∧ Below w.heap.size w w' := by
  have HT := Aside0.mk (fun W h => take_none A c b W h hc hb (by omega) ht)
  clear ht hb
  have HR := Aside0.mk hr
  have HB := Aside0.mk (Below.refl w.heap.size w)
  clear hr
  rw [hbl] at hl hlong ⊢
  clear hbl
  go_enter Try.func8, Try.ntmps8
  go_wp2_with (fail)
  (with_reducible refine (shownC _).mono ?_); rintro e w1 ⟨rfl, hb⟩
  replace HB := Aside0.mk (below_step HB.out hb); replace HR := Aside0.mk (Kd.C_below HR.out hb); clear hb
  go_wp2_with (fail)
  refine (HT.out _ HR.out).mono ?_; rintro e w2 ⟨rfl, hb⟩
  have HB8 := Aside0.mk (below_step HB.out hb); clear hb HT HR HB
  go_wp2_with (fail)
  refine start_ (n := 23) (S := fun w' => True) (ds := []) #[false, false, false, false, false, false, false, false, false, false, false, false, false, false, false, false, false, false, false, false, false, false, false] (by kernel_rfl) rfl rfl trivial (fun hHeld => ?_)
  refine pure_ (i := 0) (N := some 23) (v := ?_) (a' := ?_) #[true, false, false, false, false, false, false, false, false, false, false, false, false, false, false, false, false, false, false, false, false, false, false] rfl rfl (by kernel_rfl) (fun _ _ _ h => h) (Or.inl ⟨by rfl, ?_⟩) ?_ ?_
  rotate_left
  · intro w'
    go_simp
    with_reducible rfl
  rotate_left
  · simp only [Act.put, List.setIfInBounds_toArray, List.set_cons_zero, List.set_cons_succ, i64_w, i32_w]
    rfl
  refine pure_ (i := 1) (N := some 24) (v := ?_) (a' := ?_) #[true, true, false, false, false, false, false, false, false, false, false, false, false, false, false, false, false, false, false, false, false, false, false] rfl rfl (by kernel_rfl) (fun _ _ _ h => h) (Or.inl ⟨by rfl, ?_⟩) ?_ ?_
  rotate_left
  · intro w'
    go_simp
    with_reducible rfl
  rotate_left
  · simp only [Act.put, List.setIfInBounds_toArray, List.set_cons_zero, List.set_cons_succ, i64_w, i32_w]
    rfl
  refine pure_ (i := 2) (N := some 25) (v := ?_) (a' := ?_) #[true, true, true, false, false, false, false, false, false, false, false, false, false, false, false, false, false, false, false, false, false, false, false] rfl rfl (by kernel_rfl) (fun _ _ _ h => h) (Or.inl ⟨by rfl, ?_⟩) ?_ ?_
  rotate_left
  · intro w'
    go_simp
    with_reducible rfl
  rotate_left
  · simp only [Act.put, List.setIfInBounds_toArray, List.set_cons_zero, List.set_cons_succ, i64_w, i32_w]
    rfl
  refine pure_ (i := 3) (N := some 26) (v := undef) (a' := ?_) #[true, true, true, true, false, false, false, false, false, false, false, false, false, false, false, false, false, false, false, false, false, false, false] rfl rfl (by kernel_rfl) (fun _ _ _ h => h) (Or.inr ⟨by rfl, rfl⟩) ?_ ?_
  rotate_left
  · simp only [Act.put, List.setIfInBounds_toArray, List.set_cons_zero, List.set_cons_succ, i64_w, i32_w]
    rfl
  refine pure_ (i := 4) (N := some 27) (v := undef) (a' := ?_) #[true, true, true, true, true, false, false, false, false, false, false, false, false, false, false, false, false, false, false, false, false, false, false] rfl rfl (by kernel_rfl) (fun _ _ _ h => h) (Or.inr ⟨by rfl, rfl⟩) ?_ ?_
  rotate_left
  · simp only [Act.put, List.setIfInBounds_toArray, List.set_cons_zero, List.set_cons_succ, i64_w, i32_w]
    rfl
  refine pure_ (i := 5) (N := some 28) (v := undef) (a' := ?_) #[true, true, true, true, true, true, false, false, false, false, false, false, false, false, false, false, false, false, false, false, false, false, false] rfl rfl (by kernel_rfl) (fun _ _ _ h => h) (Or.inr ⟨by rfl, rfl⟩) ?_ ?_
  rotate_left
  · simp only [Act.put, List.setIfInBounds_toArray, List.set_cons_zero, List.set_cons_succ, i64_w, i32_w]
    rfl
  refine pure_ (i := 6) (N := some 29) (v := undef) (a' := ?_) #[true, true, true, true, true, true, true, false, false, false, false, false, false, false, false, false, false, false, false, false, false, false, false] rfl rfl (by kernel_rfl) (fun _ _ _ h => h) (Or.inr ⟨by rfl, rfl⟩) ?_ ?_
  rotate_left
  · simp only [Act.put, List.setIfInBounds_toArray, List.set_cons_zero, List.set_cons_succ, i64_w, i32_w]
    rfl
  refine pure_ (i := 7) (N := some 30) (v := undef) (a' := ?_) #[true, true, true, true, true, true, true, true, false, false, false, false, false, false, false, false, false, false, false, false, false, false, false] rfl rfl (by kernel_rfl) (fun _ _ _ h => h) (Or.inr ⟨by rfl, rfl⟩) ?_ ?_
  rotate_left
  · simp only [Act.put, List.setIfInBounds_toArray, List.set_cons_zero, List.set_cons_succ, i64_w, i32_w]
    rfl
  refine pure_ (i := 8) (N := some 31) (v := undef) (a' := ?_) #[true, true, true, true, true, true, true, true, true, false, false, false, false, false, false, false, false, false, false, false, false, false, false] rfl rfl (by kernel_rfl) (fun _ _ _ h => h) (Or.inr ⟨by rfl, rfl⟩) ?_ ?_
  rotate_left
  · simp only [Act.put, List.setIfInBounds_toArray, List.set_cons_zero, List.set_cons_succ, i64_w, i32_w]
    rfl
  refine pure_ (i := 9) (N := some 32) (v := ?_) (a' := ?_) #[true, true, true, true, true, true, true, true, true, true, false, false, false, false, false, false, false, false, false, false, false, false, false] rfl rfl (by kernel_rfl) (fun _ _ _ h => h) (Or.inl ⟨by rfl, ?_⟩) ?_ ?_
  rotate_left
  · intro w'
    go_simp
    with_reducible rfl
  rotate_left
  · simp only [Act.put, List.setIfInBounds_toArray, List.set_cons_zero, List.set_cons_succ, i64_w, i32_w]
    rfl
  refine pure_ (i := 10) (N := some 33) (v := ?_) (a' := ?_) #[true, true, true, true, true, true, true, true, true, true, true, false, false, false, false, false, false, false, false, false, false, false, false] rfl rfl (by kernel_rfl) (fun _ _ _ h => h) (Or.inl ⟨by rfl, ?_⟩) ?_ ?_
  rotate_left
  · intro w'
    go_simp
    with_reducible rfl
  rotate_left
  · simp only [Act.put, List.setIfInBounds_toArray, List.set_cons_zero, List.set_cons_succ, i64_w, i32_w]
    rfl
  refine pure_ (i := 11) (N := some 34) (v := ?_) (a' := ?_) #[true, true, true, true, true, true, true, true, true, true, true, true, false, false, false, false, false, false, false, false, false, false, false] rfl rfl (by kernel_rfl) (fun _ _ _ h => h) (Or.inl ⟨by rfl, ?_⟩) ?_ ?_
  rotate_left
  · intro w'
    go_simp
    with_reducible rfl
  rotate_left
  · simp only [Act.put, List.setIfInBounds_toArray, List.set_cons_zero, List.set_cons_succ, i64_w, i32_w]
    rfl
  refine pure_ (i := 12) (N := some 35) (v := ?_) (a' := ?_) #[true, true, true, true, true, true, true, true, true, true, true, true, true, false, false, false, false, false, false, false, false, false, false] rfl rfl (by kernel_rfl) (fun _ _ _ h => h) (Or.inl ⟨by rfl, ?_⟩) ?_ ?_
  rotate_left
  · intro w'
    go_simp
    with_reducible rfl
  rotate_left
  · simp only [Act.put, List.setIfInBounds_toArray, List.set_cons_zero, List.set_cons_succ, i64_w, i32_w]
    rfl
  refine pure_ (i := 13) (N := some 36) (v := ?_) (a' := ?_) #[true, true, true, true, true, true, true, true, true, true, true, true, true, true, false, false, false, false, false, false, false, false, false] rfl rfl (by kernel_rfl) (fun _ _ _ h => h) (Or.inl ⟨by rfl, ?_⟩) ?_ ?_
  rotate_left
  · intro w'
    go_simp
    with_reducible rfl
  rotate_left
  · simp only [Act.put, List.setIfInBounds_toArray, List.set_cons_zero, List.set_cons_succ, i64_w, i32_w]
    rfl
  refine pure_ (i := 14) (N := some 37) (v := ?_) (a' := ?_) #[true, true, true, true, true, true, true, true, true, true, true, true, true, true, true, false, false, false, false, false, false, false, false] rfl rfl (by kernel_rfl) (fun _ _ _ h => h) (Or.inl ⟨by rfl, ?_⟩) ?_ ?_
  rotate_left
  · intro w'
    go_simp
    with_reducible rfl
  rotate_left
  · simp only [Act.put, List.setIfInBounds_toArray, List.set_cons_zero, List.set_cons_succ, i64_w, i32_w]
    rfl
  refine pure_ (i := 15) (N := some 38) (v := ?_) (a' := ?_) #[true, true, true, true, true, true, true, true, true, true, true, true, true, true, true, true, false, false, false, false, false, false, false] rfl rfl (by kernel_rfl) (fun _ _ _ h => h) (Or.inl ⟨by rfl, ?_⟩) ?_ ?_
  rotate_left
  · intro w'
    go_simp
    with_reducible rfl
  rotate_left
  · simp only [Act.put, List.setIfInBounds_toArray, List.set_cons_zero, List.set_cons_succ, i64_w, i32_w]
    rfl
  refine pure_ (i := 16) (N := some 39) (v := ?_) (a' := ?_) #[true, true, true, true, true, true, true, true, true, true, true, true, true, true, true, true, true, false, false, false, false, false, false] rfl rfl (by kernel_rfl) (fun _ _ _ h => h) (Or.inl ⟨by rfl, ?_⟩) ?_ ?_
  rotate_left
  · intro w'
    go_simp
    with_reducible rfl
  rotate_left
  · simp only [Act.put, List.setIfInBounds_toArray, List.set_cons_zero, List.set_cons_succ, i64_w, i32_w]
    rfl
  refine pure_ (i := 17) (N := some 40) (v := ?_) (a' := ?_) #[true, true, true, true, true, true, true, true, true, true, true, true, true, true, true, true, true, true, false, false, false, false, false] rfl rfl (by kernel_rfl) (fun _ _ _ h => h) (Or.inl ⟨by rfl, ?_⟩) ?_ ?_
  rotate_left
  · intro w'
    go_simp
    with_reducible rfl
  rotate_left
  · simp only [Act.put, List.setIfInBounds_toArray, List.set_cons_zero, List.set_cons_succ, i64_w, i32_w]
    rfl
  refine pure_ (i := 18) (N := some 41) (v := ?_) (a' := ?_) #[true, true, true, true, true, true, true, true, true, true, true, true, true, true, true, true, true, true, true, false, false, false, false] rfl rfl (by kernel_rfl) (fun _ _ _ h => h) (Or.inl ⟨by rfl, ?_⟩) ?_ ?_
  rotate_left
  · intro w'
    go_simp
    with_reducible rfl
  rotate_left
  · simp only [Act.put, List.setIfInBounds_toArray, List.set_cons_zero, List.set_cons_succ, i64_w, i32_w]
    rfl
  refine pure_ (i := 19) (N := some 42) (v := ?_) (a' := ?_) #[true, true, true, true, true, true, true, true, true, true, true, true, true, true, true, true, true, true, true, true, false, false, false] rfl rfl (by kernel_rfl) (fun _ _ _ h => h) (Or.inl ⟨by rfl, ?_⟩) ?_ ?_
  rotate_left
  · intro w'
    go_simp
    with_reducible rfl
  rotate_left
  · simp only [Act.put, List.setIfInBounds_toArray, List.set_cons_zero, List.set_cons_succ, i64_w, i32_w]
    rfl
  refine pure_ (i := 20) (N := some 43) (v := ?_) (a' := ?_) #[true, true, true, true, true, true, true, true, true, true, true, true, true, true, true, true, true, true, true, true, true, false, false] rfl rfl (by kernel_rfl) (fun _ _ _ h => h) (Or.inl ⟨by rfl, ?_⟩) ?_ ?_
  rotate_left
  · intro w'
    go_simp
    with_reducible rfl
  rotate_left
  · simp only [Act.put, List.setIfInBounds_toArray, List.set_cons_zero, List.set_cons_succ, i64_w, i32_w]
    rfl
  refine pure_ (i := 21) (N := some 44) (v := ?_) (a' := ?_) #[true, true, true, true, true, true, true, true, true, true, true, true, true, true, true, true, true, true, true, true, true, true, false] rfl rfl (by kernel_rfl) (fun _ _ _ h => h) (Or.inl ⟨by rfl, ?_⟩) ?_ ?_
  rotate_left
  · intro w'
    go_simp
    with_reducible rfl
  rotate_left
  · simp only [Act.put, List.setIfInBounds_toArray, List.set_cons_zero, List.set_cons_succ, i64_w, i32_w]
    rfl
  refine pure_ (i := 22) (N := some 45) (v := ?_) (a' := ?_) #[true, true, true, true, true, true, true, true, true, true, true, true, true, true, true, true, true, true, true, true, true, true, true] rfl rfl (by kernel_rfl) (fun _ _ _ h => h) (Or.inl ⟨by rfl, ?_⟩) ?_ ?_
  rotate_left
  · intro w'
    go_simp
    with_reducible rfl
  rotate_left
  · simp only [Act.put, List.setIfInBounds_toArray, List.set_cons_zero, List.set_cons_succ, i64_w, i32_w]
    rfl
  refine done_ (by kernel_rfl) ?_
  replace HB8 := Aside0.mk (below_drew HB8.out)
  generalize w2.drew = w8 at *
  obtain ⟨N, hN⟩ : ∃ N : Nat, n % 128 = (N : Int) := ⟨(n % 128).toNat, by omega⟩
  have hN1 : N ≤ 127 := by omega
  have HNW : Aside0 (wrap64 (bits .and .u8 n 127) = (N : Int)) := ⟨by rw [and127 n n0 n1, hN]⟩
  clear hN
  go_wp2_with (fail)
  go_loop [8, 9] (fun v8 v9 => ∃ (i : Nat) (S : ByteArray), v9 = .int .i64 i ∧ i ≤ N ∧ v8 = .string S ∧ Aside0 (S.size = i)) (fun _ v9 => N - (intOf v9).toNat)
  case atStart => exact ⟨0, ByteArray.empty, by go_num, by omega, rfl, ⟨rfl⟩⟩
  case round =>
    obtain ⟨i, S, rfl, hin, rfl, hS⟩ := hrel
    have hNr := HNW.out
    by_cases hi : i < N
    · have hiI : (i : Int) < (N : Int) := by omega
      have hz1 : (9223372036854775807 < S.size + 1) = False := eq_false (by have := hS.out; omega)
      have HZ := Aside0.mk hz1
      clear hz1
      have hz1 := HZ.out
      go_wp2_with (fail)
      clear hz1
      go_round
      case rel => exact ⟨i + 1, _, by go_num, by omega, rfl, ⟨by rw [ByteArray.size_append, hS.out]; rfl⟩⟩
      case measure => simp [intOf]; omega
    · obtain rfl : i = N := by omega
      have HC : Aside0 (Kd.C Kd.string (w8.alloc (.cells #[.string S] 9)) (some ⟨w8.heap.size, 0, none⟩) [S].length [S]) := by
        have h := World.ownsRow_lit (base := w8.heap.size) (e := 9) (size := 1) w8 #[.string S] 1 (Nat.le_refl _) (by simp [maxLen]) (by simp)
        have h2 : Kd.R Kd.string 9 (w8.alloc (.cells #[.string S] 9)) w8.heap.size (fun _ => True) (.slice (some ⟨w8.heap.size, 0, none⟩) 1 1) [S] := Kd.R_of_own (enc := Value.string) h (fun _ _ => trivial)
        exact ⟨(Kd.R_reads' h2).2.2⟩
      have hPl : (put [S]).length ≤ 1000 := by rw [put_one S (by have := hS.out; omega)]; simp only [List.length_cons, bytesOf_length]; have := hS.out; omega
      have HPl := Aside0.mk hPl
      clear hPl
      go_wp2_with (fail)
      refine (putC (some ⟨w8.heap.size, 0, none⟩) 1 [S] _ HC.out (by simp) (by simp) (by intro s hs; simp at hs; subst hs; have := hS.out; omega)).mono ?_; rintro e w9 ⟨v, rfl, ho, hb⟩
      obtain ⟨Ap, cp, rfl, lp, hpp⟩ := R_C ho
      have HB9 := Aside0.mk (below_step HB8.out (below_then (below_alloc (Below.refl w8.heap.size w8) _) (by simp) hb))
      have HPP := Aside0.mk hpp
      clear ho hb hpp
      by_cases h60 : i ≤ 60
      · have HT9 := Aside0.mk (take_some Ap cp (put [S]) w9 HPP.out lp (put_Bytes _) (by have := HPl.out; omega) [S] (takeM_put [S] (by intro s hs; simp at hs; subst hs; have := hS.out; omega) (by simp)))
        generalize put [S] = PS at *
        go_wp2_with (fail)
        refine (HT9.out).mono ?_; rintro e w10 ⟨Ay, cy, rfl, ly, hy, hb⟩
        have HB10 := Aside0.mk (below_step HB9.out hb)
        obtain ⟨ay, e1, hcell⟩ := Kd.at_string hy (0 : Int) (by omega) (by simp)
        subst e1
        have hcell0 : w10.cell? ay = some (.string S) := by simpa [Addr.add, rdOf] using hcell
        clear hy hb hcell
        have hsz := hS.out
        have hle : decide ((i : Int) ≤ 60) = true := decide_eq_true (by omega)
        have hle2 : decide (i ≤ 60) = true := decide_eq_true h60
        go_wp2_with (fail)
        go_ret
        exact ⟨rfl, HB10.out⟩
      · have HT9 := Aside0.mk (take_none Ap cp (put [S]) w9 HPP.out lp (put_Bytes _) (by have := HPl.out; omega) (take_long S (by have := hS.out; omega) (by have := hS.out; omega)))
        generalize put [S] = PS at *
        go_wp2_with (fail)
        refine (HT9.out).mono ?_; rintro e w10 ⟨rfl, hb⟩
        have HB10 := Aside0.mk (below_step HB9.out hb)
        clear hb
        have hsz := hS.out
        have hle : decide ((i : Int) ≤ 60) = false := decide_eq_false (by omega)
        have hle2 : decide (i ≤ 60) = false := decide_eq_false h60
        go_wp2_with (fail)
        go_ret
        exact ⟨rfl, HB10.out⟩

set_option maxHeartbeats 8000000 in
set_option maxRecDepth 100000 in
theorem all_some (A : Option Addr) (c : Nat) (l b : List Int) (n : Int) (w : World) (hr : Kd.C (Kd.int .u8) w A b.length b) (hl : l.length ≤ c) (hc : b.length ≤ c) (hb : Bytes b) (h500 : b.length ≤ 500) (n0 : 0 ≤ n) (n1 : n ≤ 255) (hlong : ¬ (l.length : Int) > 500) (hbl : l.length = b.length) (x : List ByteArray) (ht : takeM b = some x) :
    Calls Try.prog 8 #[.slice A l.length c, .int .u8 n] w fun e w' => e = .returned (.bool true) ∧ Below w.heap.size w w' := by
  have HT := Aside0.mk (fun W h => take_some A c b W h hc hb (by omega) x ht)
  have hput := (takeM_some ht).1
  have hx := (takeM_some ht).2.1
  have hsx := (takeL_size (takeM_some ht).2.2).2
  have HSX : Aside0 (∀ s ∈ x, s.size ≤ 1000) := ⟨fun s h => by have := hsx s h; omega⟩
  have HP := Aside0.mk hput
  clear hput hsx
  clear ht hb
  have HR := Aside0.mk hr
  have HB := Aside0.mk (Below.refl w.heap.size w)
  clear hr
  rw [hbl] at hl hlong ⊢
  clear hbl
  go_enter Try.func8, Try.ntmps8
  go_wp2_with (fail)
  (with_reducible refine (shownC _).mono ?_); rintro e w1 ⟨rfl, hb⟩
  replace HB := Aside0.mk (below_step HB.out hb); replace HR := Aside0.mk (Kd.C_below HR.out hb); clear hb
  go_wp2_with (fail)
  refine (HT.out _ HR.out).mono ?_; rintro e w2 ⟨Ax, cx, rfl, lx, hx2, hb⟩
  have HX := Aside0.mk hx2
  have HS : Aside0 (∀ W, Below w2.heap.size w2 W → (convert 25 9 (.slice A b.length c)).run Try.prog W = .ok (.string (strOfNums b)) W) := by
    have h1 := Kd.C_below HR.out hb
    exact ⟨fun W hW => toStr1 (P := Try.prog) c Try.underlying25 Try.underlying5 Try.underlying9 (Kd.C_below h1 hW)⟩
  replace HB := Aside0.mk (below_step HB.out hb); clear hb hx2
  have hs1 := HS.out _ (below_drew (Below.refl _ _))
  go_wp2_with (fail)
  refine start_ (n := 23) (S := fun w' => (convert 25 9 (.slice A b.length c)).run Try.prog w' = .ok (.string (strOfNums b)) w') (ds := []) #[false, false, false, false, false, false, false, false, false, false, false, false, false, false, false, false, false, false, false, false, false, false, false] (by kernel_rfl) rfl rfl (hs1) (fun hHeld => ?_)
  refine pure_ (i := 0) (N := some 23) (v := ?_) (a' := ?_) #[true, false, false, false, false, false, false, false, false, false, false, false, false, false, false, false, false, false, false, false, false, false, false] rfl rfl (by kernel_rfl) (fun _ _ _ h => h) (Or.inl ⟨by rfl, ?_⟩) ?_ ?_
  rotate_left
  · intro w'
    go_simp
    with_reducible rfl
  rotate_left
  · simp only [Act.put, List.setIfInBounds_toArray, List.set_cons_zero, List.set_cons_succ, i64_w, i32_w]
    rfl
  refine pure_ (i := 1) (N := some 24) (v := ?_) (a' := ?_) #[true, true, false, false, false, false, false, false, false, false, false, false, false, false, false, false, false, false, false, false, false, false, false] rfl rfl (by kernel_rfl) (fun _ _ _ h => h) (Or.inl ⟨by rfl, ?_⟩) ?_ ?_
  rotate_left
  · intro w'
    go_simp
    with_reducible rfl
  rotate_left
  · simp only [Act.put, List.setIfInBounds_toArray, List.set_cons_zero, List.set_cons_succ, i64_w, i32_w]
    rfl
  refine pure_ (i := 2) (N := some 25) (v := ?_) (a' := ?_) #[true, true, true, false, false, false, false, false, false, false, false, false, false, false, false, false, false, false, false, false, false, false, false] rfl rfl (by kernel_rfl) (fun _ _ _ h => h) (Or.inl ⟨by rfl, ?_⟩) ?_ ?_
  rotate_left
  · intro w'
    go_simp
    with_reducible rfl
  rotate_left
  · simp only [Act.put, List.setIfInBounds_toArray, List.set_cons_zero, List.set_cons_succ, i64_w, i32_w]
    rfl
  refine pure_ (i := 3) (N := some 26) (v := ?_) (a' := ?_) #[true, true, true, true, false, false, false, false, false, false, false, false, false, false, false, false, false, false, false, false, false, false, false] rfl rfl (by kernel_rfl) (fun _ _ _ h => h) (Or.inl ⟨by rfl, ?_⟩) ?_ ?_
  rotate_left
  · intro w'
    go_simp
    with_reducible rfl
  rotate_left
  · simp only [Act.put, List.setIfInBounds_toArray, List.set_cons_zero, List.set_cons_succ, i64_w, i32_w]
    rfl
  refine pure_ (i := 6) (N := some 29) (v := ?_) (a' := ?_) #[true, true, true, true, false, false, true, false, false, false, false, false, false, false, false, false, false, false, false, false, false, false, false] rfl rfl (by kernel_rfl) (fun _ _ _ h => h) (Or.inl ⟨by rfl, ?_⟩) ?_ ?_
  rotate_left
  · intro w'
    go_simp
    with_reducible rfl
  rotate_left
  · simp only [Act.put, List.setIfInBounds_toArray, List.set_cons_zero, List.set_cons_succ, i64_w, i32_w]
    rfl
  refine take_ (i := 7) (N := some 30) (v := ?_) (a' := ?_) #[true, true, true, true, false, false, true, true, false, false, false, false, false, false, false, false, false, false, false, false, false, false, false] rfl rfl (by kernel_rfl) (fun _ _ _ h => h) (Or.inl ⟨by rfl, ?_⟩) hHeld ?_ ?_
  rotate_left
  · intro w' s0
    go_simp
    with_reducible rfl
  rotate_left
  · simp only [Act.put, List.setIfInBounds_toArray, List.set_cons_zero, List.set_cons_succ, i64_w, i32_w]
    rfl
  refine one_ (i := 4) (N := some 27) #[true, true, true, true, true, false, true, true, false, false, false, false, false, false, false, false, false, false, false, false, false, false, false] rfl rfl (by kernel_rfl) (by decide) (fun K hK => ?_)
  refine goes_ Try.func13 (by kernel_rfl) rfl #[.slice Ax x.length cx] (by rfl) rfl rfl (by simp only [List.map_toArray, List.map_cons, List.map_nil]; rfl) ?_
  refine (putC Ax cx x _ (Kd.C_drew HX.out) lx (by omega) HSX.out).mono ?_
  rintro e w8 ⟨v, rfl, ho, hb2⟩
  refine ⟨_, rfl, ?_⟩
  rw [HP.out] at ho
  obtain ⟨Ab, cb, rfl, lb, ho⟩ := R_C ho
  have s8 := toStr1 (P := Try.prog) cb Try.underlying25 Try.underlying5 Try.underlying9 ho
  have hs1 := HS.out _ (below_step (below_drew (Below.refl _ _)) hb2)
  have HB8 := Aside0.mk (below_step (below_drew HB.out) hb2)
  clear ho hb2
  refine hK.out _ _ (hs1) (fun hHeld => ?_)
  clear hK K
  refine norm_ (a' := ?_) ?_ ?_
  rotate_left
  · show Act.put _ (some 27) _ = _
    simp only [Act.put, List.setIfInBounds_toArray, List.set_cons_zero, List.set_cons_succ, i64_w, i32_w]
    rfl
  refine one_ (i := 5) (N := some 28) #[true, true, true, true, true, true, true, true, false, false, false, false, false, false, false, false, false, false, false, false, false, false, false] rfl rfl (by kernel_rfl) (by decide) (fun K hK => ?_)
  refine value_ (w1 := ?_) (v := ?_) (by rfl) rfl ?_ ?_
  rotate_left 2
  · go_simp
    constructor
    · rfl
    · rfl
  refine hK.out _ _ (hs1) (fun hHeld => ?_)
  clear hK K
  refine norm_ (a' := ?_) ?_ ?_
  rotate_left
  · show Act.put _ (some 28) _ = _
    simp only [Act.put, List.setIfInBounds_toArray, List.set_cons_zero, List.set_cons_succ, i64_w, i32_w]
    rfl
  refine pure_ (i := 8) (N := some 31) (v := ?_) (a' := ?_) #[true, true, true, true, true, true, true, true, true, false, false, false, false, false, false, false, false, false, false, false, false, false, false] rfl rfl (by kernel_rfl) (fun _ _ _ h => h) (Or.inl ⟨by rfl, ?_⟩) ?_ ?_
  rotate_left
  · intro w'
    go_simp
    with_reducible rfl
  rotate_left
  · simp only [Act.put, List.setIfInBounds_toArray, List.set_cons_zero, List.set_cons_succ, i64_w, i32_w]
    rfl
  refine pure_ (i := 9) (N := some 32) (v := ?_) (a' := ?_) #[true, true, true, true, true, true, true, true, true, true, false, false, false, false, false, false, false, false, false, false, false, false, false] rfl rfl (by kernel_rfl) (fun _ _ _ h => h) (Or.inl ⟨by rfl, ?_⟩) ?_ ?_
  rotate_left
  · intro w'
    go_simp
    with_reducible rfl
  rotate_left
  · simp only [Act.put, List.setIfInBounds_toArray, List.set_cons_zero, List.set_cons_succ, i64_w, i32_w]
    rfl
  refine pure_ (i := 10) (N := some 33) (v := ?_) (a' := ?_) #[true, true, true, true, true, true, true, true, true, true, true, false, false, false, false, false, false, false, false, false, false, false, false] rfl rfl (by kernel_rfl) (fun _ _ _ h => h) (Or.inl ⟨by rfl, ?_⟩) ?_ ?_
  rotate_left
  · intro w'
    go_simp
    with_reducible rfl
  rotate_left
  · simp only [Act.put, List.setIfInBounds_toArray, List.set_cons_zero, List.set_cons_succ, i64_w, i32_w]
    rfl
  refine pure_ (i := 11) (N := some 34) (v := ?_) (a' := ?_) #[true, true, true, true, true, true, true, true, true, true, true, true, false, false, false, false, false, false, false, false, false, false, false] rfl rfl (by kernel_rfl) (fun _ _ _ h => h) (Or.inl ⟨by rfl, ?_⟩) ?_ ?_
  rotate_left
  · intro w'
    go_simp
    with_reducible rfl
  rotate_left
  · simp only [Act.put, List.setIfInBounds_toArray, List.set_cons_zero, List.set_cons_succ, i64_w, i32_w]
    rfl
  refine pure_ (i := 12) (N := some 35) (v := ?_) (a' := ?_) #[true, true, true, true, true, true, true, true, true, true, true, true, true, false, false, false, false, false, false, false, false, false, false] rfl rfl (by kernel_rfl) (fun _ _ _ h => h) (Or.inl ⟨by rfl, ?_⟩) ?_ ?_
  rotate_left
  · intro w'
    go_simp
    with_reducible rfl
  rotate_left
  · simp only [Act.put, List.setIfInBounds_toArray, List.set_cons_zero, List.set_cons_succ, i64_w, i32_w]
    rfl
  refine pure_ (i := 13) (N := some 36) (v := ?_) (a' := ?_) #[true, true, true, true, true, true, true, true, true, true, true, true, true, true, false, false, false, false, false, false, false, false, false] rfl rfl (by kernel_rfl) (fun _ _ _ h => h) (Or.inl ⟨by rfl, ?_⟩) ?_ ?_
  rotate_left
  · intro w'
    go_simp
    with_reducible rfl
  rotate_left
  · simp only [Act.put, List.setIfInBounds_toArray, List.set_cons_zero, List.set_cons_succ, i64_w, i32_w]
    rfl
  refine pure_ (i := 14) (N := some 37) (v := undef) (a' := ?_) #[true, true, true, true, true, true, true, true, true, true, true, true, true, true, true, false, false, false, false, false, false, false, false] rfl rfl (by kernel_rfl) (fun _ _ _ h => h) (Or.inr ⟨by rfl, rfl⟩) ?_ ?_
  rotate_left
  · simp only [Act.put, List.setIfInBounds_toArray, List.set_cons_zero, List.set_cons_succ, i64_w, i32_w]
    rfl
  refine pure_ (i := 15) (N := some 38) (v := undef) (a' := ?_) #[true, true, true, true, true, true, true, true, true, true, true, true, true, true, true, true, false, false, false, false, false, false, false] rfl rfl (by kernel_rfl) (fun _ _ _ h => h) (Or.inr ⟨by rfl, rfl⟩) ?_ ?_
  rotate_left
  · simp only [Act.put, List.setIfInBounds_toArray, List.set_cons_zero, List.set_cons_succ, i64_w, i32_w]
    rfl
  refine pure_ (i := 16) (N := some 39) (v := undef) (a' := ?_) #[true, true, true, true, true, true, true, true, true, true, true, true, true, true, true, true, true, false, false, false, false, false, false] rfl rfl (by kernel_rfl) (fun _ _ _ h => h) (Or.inr ⟨by rfl, rfl⟩) ?_ ?_
  rotate_left
  · simp only [Act.put, List.setIfInBounds_toArray, List.set_cons_zero, List.set_cons_succ, i64_w, i32_w]
    rfl
  refine pure_ (i := 17) (N := some 40) (v := undef) (a' := ?_) #[true, true, true, true, true, true, true, true, true, true, true, true, true, true, true, true, true, true, false, false, false, false, false] rfl rfl (by kernel_rfl) (fun _ _ _ h => h) (Or.inr ⟨by rfl, rfl⟩) ?_ ?_
  rotate_left
  · simp only [Act.put, List.setIfInBounds_toArray, List.set_cons_zero, List.set_cons_succ, i64_w, i32_w]
    rfl
  refine pure_ (i := 18) (N := some 41) (v := undef) (a' := ?_) #[true, true, true, true, true, true, true, true, true, true, true, true, true, true, true, true, true, true, true, false, false, false, false] rfl rfl (by kernel_rfl) (fun _ _ _ h => h) (Or.inr ⟨by rfl, rfl⟩) ?_ ?_
  rotate_left
  · simp only [Act.put, List.setIfInBounds_toArray, List.set_cons_zero, List.set_cons_succ, i64_w, i32_w]
    rfl
  refine pure_ (i := 19) (N := some 42) (v := undef) (a' := ?_) #[true, true, true, true, true, true, true, true, true, true, true, true, true, true, true, true, true, true, true, true, false, false, false] rfl rfl (by kernel_rfl) (fun _ _ _ h => h) (Or.inr ⟨by rfl, rfl⟩) ?_ ?_
  rotate_left
  · simp only [Act.put, List.setIfInBounds_toArray, List.set_cons_zero, List.set_cons_succ, i64_w, i32_w]
    rfl
  refine pure_ (i := 20) (N := some 43) (v := undef) (a' := ?_) #[true, true, true, true, true, true, true, true, true, true, true, true, true, true, true, true, true, true, true, true, true, false, false] rfl rfl (by kernel_rfl) (fun _ _ _ h => h) (Or.inr ⟨by rfl, rfl⟩) ?_ ?_
  rotate_left
  · simp only [Act.put, List.setIfInBounds_toArray, List.set_cons_zero, List.set_cons_succ, i64_w, i32_w]
    rfl
  refine pure_ (i := 21) (N := some 44) (v := ?_) (a' := ?_) #[true, true, true, true, true, true, true, true, true, true, true, true, true, true, true, true, true, true, true, true, true, true, false] rfl rfl (by kernel_rfl) (fun _ _ _ h => h) (Or.inl ⟨by rfl, ?_⟩) ?_ ?_
  rotate_left
  · intro w'
    go_simp
    with_reducible rfl
  rotate_left
  · simp only [Act.put, List.setIfInBounds_toArray, List.set_cons_zero, List.set_cons_succ, i64_w, i32_w]
    rfl
  refine pure_ (i := 22) (N := some 45) (v := ?_) (a' := ?_) #[true, true, true, true, true, true, true, true, true, true, true, true, true, true, true, true, true, true, true, true, true, true, true] rfl rfl (by kernel_rfl) (fun _ _ _ h => h) (Or.inl ⟨by rfl, ?_⟩) ?_ ?_
  rotate_left
  · intro w'
    go_simp
    with_reducible rfl
  rotate_left
  · simp only [Act.put, List.setIfInBounds_toArray, List.set_cons_zero, List.set_cons_succ, i64_w, i32_w]
    rfl
  refine done_ (by kernel_rfl) ?_
  obtain ⟨N, hN⟩ : ∃ N : Nat, n % 128 = (N : Int) := ⟨(n % 128).toNat, by omega⟩
  have hN1 : N ≤ 127 := by omega
  have HNW : Aside0 (wrap64 (bits .and .u8 n 127) = (N : Int)) := ⟨by rw [and127 n n0 n1, hN]⟩
  clear hN
  go_wp2_with (fail)
  go_loop [8, 9] (fun v8 v9 => ∃ (i : Nat) (S : ByteArray), v9 = .int .i64 i ∧ i ≤ N ∧ v8 = .string S ∧ Aside0 (S.size = i)) (fun _ v9 => N - (intOf v9).toNat)
  case atStart => exact ⟨0, ByteArray.empty, by go_num, by omega, rfl, ⟨rfl⟩⟩
  case round =>
    obtain ⟨i, S, rfl, hin, rfl, hS⟩ := hrel
    have hNr := HNW.out
    by_cases hi : i < N
    · have hiI : (i : Int) < (N : Int) := by omega
      have hz1 : (9223372036854775807 < S.size + 1) = False := eq_false (by have := hS.out; omega)
      have HZ := Aside0.mk hz1
      clear hz1
      have hz1 := HZ.out
      go_wp2_with (fail)
      clear hz1
      go_round
      case rel => exact ⟨i + 1, _, by go_num, by omega, rfl, ⟨by rw [ByteArray.size_append, hS.out]; rfl⟩⟩
      case measure => simp [intOf]; omega
    · obtain rfl : i = N := by omega
      have HC : Aside0 (Kd.C Kd.string (w8.alloc (.cells #[.string S] 9)) (some ⟨w8.heap.size, 0, none⟩) [S].length [S]) := by
        have h := World.ownsRow_lit (base := w8.heap.size) (e := 9) (size := 1) w8 #[.string S] 1 (Nat.le_refl _) (by simp [maxLen]) (by simp)
        have h2 : Kd.R Kd.string 9 (w8.alloc (.cells #[.string S] 9)) w8.heap.size (fun _ => True) (.slice (some ⟨w8.heap.size, 0, none⟩) 1 1) [S] := Kd.R_of_own (enc := Value.string) h (fun _ _ => trivial)
        exact ⟨(Kd.R_reads' h2).2.2⟩
      have hPl : (put [S]).length ≤ 1000 := by rw [put_one S (by have := hS.out; omega)]; simp only [List.length_cons, bytesOf_length]; have := hS.out; omega
      have HPl := Aside0.mk hPl
      clear hPl
      go_wp2_with (fail)
      refine (putC (some ⟨w8.heap.size, 0, none⟩) 1 [S] _ HC.out (by simp) (by simp) (by intro s hs; simp at hs; subst hs; have := hS.out; omega)).mono ?_; rintro e w9 ⟨v, rfl, ho, hb⟩
      obtain ⟨Ap, cp, rfl, lp, hpp⟩ := R_C ho
      have HB9 := Aside0.mk (below_step HB8.out (below_then (below_alloc (Below.refl w8.heap.size w8) _) (by simp) hb))
      have HPP := Aside0.mk hpp
      clear ho hb hpp
      by_cases h60 : i ≤ 60
      · have HT9 := Aside0.mk (take_some Ap cp (put [S]) w9 HPP.out lp (put_Bytes _) (by have := HPl.out; omega) [S] (takeM_put [S] (by intro s hs; simp at hs; subst hs; have := hS.out; omega) (by simp)))
        generalize put [S] = PS at *
        go_wp2_with (fail)
        refine (HT9.out).mono ?_; rintro e w10 ⟨Ay, cy, rfl, ly, hy, hb⟩
        have HB10 := Aside0.mk (below_step HB9.out hb)
        obtain ⟨ay, e1, hcell⟩ := Kd.at_string hy (0 : Int) (by omega) (by simp)
        subst e1
        have hcell0 : w10.cell? ay = some (.string S) := by simpa [Addr.add, rdOf] using hcell
        clear hy hb hcell
        have hsz := hS.out
        have hle : decide ((i : Int) ≤ 60) = true := decide_eq_true (by omega)
        have hle2 : decide (i ≤ 60) = true := decide_eq_true h60
        go_wp2_with (fail)
        go_ret
        exact ⟨rfl, HB10.out⟩
      · have HT9 := Aside0.mk (take_none Ap cp (put [S]) w9 HPP.out lp (put_Bytes _) (by have := HPl.out; omega) (take_long S (by have := hS.out; omega) (by have := hS.out; omega)))
        generalize put [S] = PS at *
        go_wp2_with (fail)
        refine (HT9.out).mono ?_; rintro e w10 ⟨rfl, hb⟩
        have HB10 := Aside0.mk (below_step HB9.out hb)
        clear hb
        have hsz := hS.out
        have hle : decide ((i : Int) ≤ 60) = false := decide_eq_false (by omega)
        have hle2 : decide (i ≤ 60) = false := decide_eq_false h60
        go_wp2_with (fail)
        go_ret
        exact ⟨rfl, HB10.out⟩

theorem walk (A : Option Addr) (c : Nat) (l : List Int) (n : Int) (w : World) (hr : Kd.C (Kd.int .u8) w A l.length l) (hc : l.length ≤ c) (hw : ∀ n ∈ l, (Lit.int .u8 n).wf = true) (hy : l.length * 1 ≤ 140737488351232) (hk : (Lit.int .u8 n).wf = true) :
    Calls Try.prog 8 #[.slice A l.length c, .int .u8 n] w fun e w' => e = .returned (.bool true) ∧ Below w.heap.size w w' := by
  have hb : Bytes (l.take 500) := fun x hx => by have := wf_u8 (hw x (List.mem_of_mem_take hx)); omega
  have h1 : (l.take 500).length ≤ 500 := by rw [List.length_take]; omega
  have h2 : (l.take 500).length ≤ c := by rw [List.length_take]; omega
  have h3 := C_take_any 500 hr
  have n0 := (wf_u8 hk).1
  have n1 := (wf_u8 hk).2
  by_cases h : (l.length : Int) > 500
  · have h4 : (l.take 500).length = 500 := by rw [List.length_take]; omega
    cases ht : takeM (l.take 500) with
    | none => exact long_none A c l _ n w h3 hc h2 hb h1 n0 n1 h h4 ht
    | some x => exact long_some A c l _ n w h3 hc h2 hb h1 n0 n1 h h4 x ht
  · have h4 : l.length = (l.take 500).length := by rw [List.length_take]; omega
    cases ht : takeM (l.take 500) with
    | none => exact all_none A c l _ n w h3 hc h2 hb h1 n0 n1 h h4 ht
    | some x => exact all_some A c l _ n w h3 hc h2 hb h1 n0 n1 h h4 x ht
end Go.Proofs.Ytnecipeckamiiaa.WTextsOne
