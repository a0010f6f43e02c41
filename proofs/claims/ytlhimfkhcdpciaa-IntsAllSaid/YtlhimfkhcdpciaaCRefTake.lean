/-
  The contract of the reference's Take of numbers.
-/
import Derived.Test.YtlhimfkhcdpciaaQIntsAllx3
import Derived.Test.YtlhimfkhcdpciaaCRef
import Derived.Test.YtlhimfkhcdpciaaCTake2
namespace Go.Proofs.Ytlhimfkhcdpciaa.CRefTake
open Go.RowKit Go.Proofs.Ytlhimfkhcdpciaa.QIntsAll Go.Proofs.YtlhimfkhcdpciaaW.PrintWords Go.Proofs.YtlhimfkhcdpciaaW.PrintLast Go.Proofs.YtlhimfkhcdpciaaW.PrintMore Go.Proofs.Ytlhimfkhcdpciaa.Num Go.Proofs.Ytlhimfkhcdpciaa.Bits Go.Proofs.Ytlhimfkhcdpciaa.VarM Go.Proofs.Ytlhimfkhcdpciaa.CGet64 Go.Proofs.Ytlhimfkhcdpciaa.Ints Go.Proofs.Ytlhimfkhcdpciaa.IntsT Go.Proofs.Ytlhimfkhcdpciaa.Hold Go.Proofs.Ytlhimfkhcdpciaa.CRef Go.Proofs.Ytlhimfkhcdpciaa.RVar Go.Proofs.Ytlhimfkhcdpciaa.RefM
open Go.Proofs.Ytlhimfkhcdpciaa.CTake (info_u8)
open Go.Proofs.Ytlhimfkhcdpciaa.CTake2 (parts)
set_option linter.unusedVariables false
set_option linter.unusedSimpArgs false
attribute [local go_sem] max2_int min2_int max_two min_two max_three min_three max_four min_four

theorem info_i64 : (Try.prog.info? 2).map (fun i => (i.zero, i.size, i.bytes)) = some (some (.int .i64 0), 1, 8) := by kernel_rfl

/-! ### Fixed, Delta, Put -/
theorem rput_f (x : Nat) (k : Nat) (hx : x < 18446744073709551616) (hk : 10 ≤ k) : thresherref01_PutVar.f k x = some (pv x) := by
  unfold thresherref01_PutVar.f
  rw [refput_loop (l0 := thresherref01_PutVar.l0) (fun _ _ _ => rfl) 9 x k [] (by omega) (by omega) (by omega) (by simp)]
  simp
theorem refput64_any (k : Nat) (x : Int) (hk : 9 ≤ k) (h0 : 0 ≤ x) (h1 : x ≤ 18446744073709551615) : thresherref01_Put64.f k x = some (cl x) :=
  at_rounds (g := fun k => thresherref01_Put64.f k x) (thresherref01_Put64.mono x) hk (refput64 (l0 := thresherref01_Put64.l0) (fun _ _ _ _ => rfl) x h0 h1)
theorem rfixed_loop (l : List Int) (hn : l.length < 1000000000) (d : Nat) : ∀ (k i : Nat) (acc : List Int), i + d = l.length → d + 10 < k → acc.length + 8 * d < 140737488355328 →
    thresherref05_Fixed.l0 k l acc (i : Int) = some (acc ++ fx (l.drop i)) := by
  induction d with
  | zero =>
    intro k i acc hi hk ha
    obtain ⟨k, rfl⟩ : ∃ m, k = m + 1 := ⟨k - 1, by omega⟩
    rw [thresherref05_Fixed.l0, if_neg (by omega), List.drop_of_length_le (by omega)]
    simp [fx]
  | succ d ih =>
    intro k i acc hi hk ha
    obtain ⟨k, rfl⟩ : ∃ m, k = m + 1 := ⟨k - 1, by omega⟩
    have hu : 0 ≤ IntKind.u64.wrap (rd l i) ∧ IntKind.u64.wrap (rd l i) ≤ 18446744073709551615 := by rw [wrap_u64]; omega
    have er : rd l (i : Int) = l.getD i 0 := rfl
    rw [thresherref05_Fixed.l0, if_pos (by omega), if_pos (by omega), refput64_any k _ (by omega) hu.1 hu.2, Option.bind_some, if_pos (by rw [cl_length]; omega)]
    have e : wrap64 ((i : Int) + 1) = ((i + 1 : Nat) : Int) := by rw [wrap64_id (by omega) (by omega)]; rfl
    rw [e, ih k (i + 1) _ (by omega) (by omega) (by rw [List.length_append, cl_length]; omega), drop_at l i (by omega), ← le8_cl _ hu.1 hu.2, er]
    simp [fx]
theorem rdelta_loop (l : List Int) (hn : l.length < 1000000000) (d : Nat) : ∀ (k i : Nat) (last : Int) (acc : List Int), i + d = l.length → d + 10 < k → acc.length + 10 * d < 140737488355328 →
    thresherref05_Delta.l0 k l acc last (i : Int) = some (acc ++ dl last (l.drop i)) := by
  induction d with
  | zero =>
    intro k i last acc hi hk ha
    obtain ⟨k, rfl⟩ : ∃ m, k = m + 1 := ⟨k - 1, by omega⟩
    rw [thresherref05_Delta.l0, if_neg (by omega), List.drop_of_length_le (by omega)]
    simp [dl]
  | succ d ih =>
    intro k i last acc hi hk ha
    obtain ⟨k, rfl⟩ : ∃ m, k = m + 1 := ⟨k - 1, by omega⟩
    have hw := wrap64_i64 (rd l i - last)
    have hzr := zig_range _ hw.1 hw.2
    obtain ⟨z, hzz⟩ : ∃ z : Nat, zig (wrap64 (rd l i - last)) = z := Int.eq_ofNat_of_zero_le hzr.1
    have h10 := pv_le10 z (by omega)
    have hz : thresherref01_Zig.f (wrap64 (rd l i - last)) = some (z : Int) := by
      rw [← hzz]; exact refzig _ hw.1 hw.2
    rw [thresherref05_Delta.l0, if_pos (by omega), if_pos (by omega), hz, Option.bind_some, rput_f z k (by omega) (by omega), Option.bind_some, if_pos (by omega)]
    have e : wrap64 ((i : Int) + 1) = ((i + 1 : Nat) : Int) := by rw [wrap64_id (by omega) (by omega)]; rfl
    rw [e, ih k (i + 1) _ _ (by omega) (by omega) (by rw [List.length_append]; omega), drop_at l i (by omega)]
    have er : rd l (i : Int) = l.getD i 0 := rfl
    simp only [dl, List.append_assoc]
    rw [← er, hzz]
    rfl
theorem rfixed_f (l : List Int) (k : Nat) (hn : l.length < 1000000000) (hk : l.length + 10 < k) : thresherref05_Fixed.f k l = some (fx l) := by
  unfold thresherref05_Fixed.f
  have h := rfixed_loop l hn l.length k 0 [] (by omega) hk (by simp; omega)
  simpa using h
theorem rdelta_f (l : List Int) (k : Nat) (hn : l.length < 1000000000) (hk : l.length + 10 < k) : thresherref05_Delta.f k l = some (dl 0 l) := by
  unfold thresherref05_Delta.f
  have h := rdelta_loop l hn l.length k 0 0 [] (by omega) hk (by simp; omega)
  simpa using h
theorem rput05_f (l : List Int) (k : Nat) (hn : l.length < 1000000000) (hk : l.length + 10 < k) : thresherref05_Put.f k l = some (put l) := by
  unfold thresherref05_Put.f
  have hd := dl_length_le l 0
  have hf := fx_length l
  have hp := pv_le10 l.length (by omega)
  have e : wrap64 (8 * (l.length : Int)) = ((8 * l.length : Nat) : Int) := by rw [wrap64_id (by omega) (by omega)]; omega
  have e2 : IntKind.u64.wrap (l.length : Int) = ((l.length : Nat) : Int) := wrap_u64_id (by omega) (by omega)
  rw [e, e2, rput_f l.length k (by omega) (by omega), Option.bind_some, rdelta_f l k hn hk, rfixed_f l k hn hk]
  simp only [Option.bind_some]
  unfold put
  by_cases h : 8 * l.length ≤ (dl 0 l).length
  · rw [if_neg (by omega), if_pos (by omega), if_pos (by rw [List.length_append]; simp; omega), if_pos h]
    simp
  · rw [if_pos (by omega), if_pos (by omega), if_pos (by rw [List.length_append]; simp; omega), if_neg h]
    simp
theorem refFixed (A : Option Addr) (c : Nat) (l : List Int) (w : World) (hr : Kd.C (Kd.int .i64) w A l.length l) (hc : l.length ≤ c) (hn : l.length < 1000000000) :
    Calls Try.prog 17 #[.slice A l.length c] w fun e w' => ∃ v, e = .returned v ∧ Kd.R (Kd.int .u8) 5 w' w.heap.size (fun _ => True) v (fx l) ∧ Below w.heap.size w w' :=
  thresherref05_Fixed.calls (l.length + 11) A c l (fx l) w hr hc (rfixed_f l _ hn (by omega))
theorem refDelta (A : Option Addr) (c : Nat) (l : List Int) (w : World) (hr : Kd.C (Kd.int .i64) w A l.length l) (hc : l.length ≤ c) (hn : l.length < 1000000000) :
    Calls Try.prog 18 #[.slice A l.length c] w fun e w' => ∃ v, e = .returned v ∧ Kd.R (Kd.int .u8) 5 w' w.heap.size (fun _ => True) v (dl 0 l) ∧ Below w.heap.size w w' :=
  thresherref05_Delta.calls (l.length + 11) A c l (dl 0 l) w hr hc (rdelta_f l _ hn (by omega))
theorem refPut05 (A : Option Addr) (c : Nat) (l : List Int) (w : World) (hr : Kd.C (Kd.int .i64) w A l.length l) (hc : l.length ≤ c) (hn : l.length < 1000000000) :
    Calls Try.prog 19 #[.slice A l.length c] w fun e w' => ∃ v, e = .returned v ∧ Kd.R (Kd.int .u8) 5 w' w.heap.size (fun _ => True) v (put l) ∧ Below w.heap.size w w' :=
  thresherref05_Put.calls (l.length + 11) A c l (put l) w hr hc (rput05_f l _ hn (by omega))

end Go.Proofs.Ytlhimfkhcdpciaa.CRefTake
