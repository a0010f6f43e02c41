/-
  Contracts of PutVar, Zig, Delta, Fixed, Put and the example, in plain words.
-/
import Derived.Test.YtlhimfkhcdpciaaQIntsStepsx1
import Derived.Test.YtlhimfkhcdpciaaInts
namespace Go.Proofs.Ytlhimfkhcdpciaa.CInts
open Go.RowKit Go.Proofs.Ytlhimfkhcdpciaa.QIntsSteps Go.Proofs.YtlhimfkhcdpciaaW.PrintWords Go.Proofs.YtlhimfkhcdpciaaW.PrintLast Go.Proofs.YtlhimfkhcdpciaaW.PrintMore Go.Proofs.Ytlhimfkhcdpciaa.Num Go.Proofs.Ytlhimfkhcdpciaa.Bits Go.Proofs.Ytlhimfkhcdpciaa.Ints

theorem zig_f (n : Int) (h0 : -9223372036854775808 ≤ n) (h1 : n ≤ 9223372036854775807) : num_Zig.f n = some (zig n) := by
  unfold num_Zig.f; rw [zig_eq n h0 h1]
theorem put_f (x : Nat) (k : Nat) (hx : x < 18446744073709551616) (hk : 10 ≤ k) : num_PutVar.f k x = some (pv x) := by
  unfold num_PutVar.f
  rw [putvar_loop (l0 := num_PutVar.l0) (fun _ _ _ => rfl) 9 x k [] (by omega) (by omega) (by simp)]
  simp
theorem delta_f (l : List Int) (k : Nat) (hn : l.length < 1000000000) (hk : l.length + 10 < k) : ints_Delta.f k l = some (dl 0 l) := by
  unfold ints_Delta.f
  have h := delta_loop (l0 := ints_Delta.l0) (fun _ _ _ _ _ _ => rfl) zig_f put_f l hn l.length k 0 0 [] (by omega) hk (by simp; omega)
  simpa using h
theorem fixed_f (l : List Int) (k : Nat) (hn : l.length < 1000000000) (hk : 8 * l.length < k) : ints_Fixed.f k l = some (fx l) := by
  unfold ints_Fixed.f
  have e : wrap64 (8 * (l.length : Int)) = ((8 * l.length : Nat) : Int) := by rw [wrap64_id (by omega) (by omega)]; omega
  rw [e, Int.toNat_natCast, if_pos (by omega), if_pos (by omega), Option.bind_some, List.length_replicate]
  have h := fixed_loop (l0 := ints_Fixed.l0) (fun _ _ _ _ _ => rfl) l hn (8 * l.length) k 0 _ (by omega) hk rfl
  simp only [List.range_zero, List.map_nil, List.nil_append] at h
  rw [fx_at] at h
  exact h
theorem ints_put_f (l : List Int) (k : Nat) (hn : l.length < 1000000000) (hk : 8 * l.length + 10 < k) : ints_Put.f k l = some (put l) := by
  unfold ints_Put.f
  have hd := dl_length_le l 0
  have hf := fx_length l
  have hp := pv_le10 l.length (by omega)
  have e : wrap64 (8 * (l.length : Int)) = ((8 * l.length : Nat) : Int) := by rw [wrap64_id (by omega) (by omega)]; omega
  have e2 : IntKind.u64.wrap (l.length : Int) = ((l.length : Nat) : Int) := wrap_u64_id (by omega) (by omega)
  rw [delta_f l k hn (by omega), Option.bind_some, e, e2, put_f l.length k (by omega) (by omega), fixed_f l k hn (by omega)]
  simp only [Option.bind_some]
  unfold put
  by_cases h : 8 * l.length ≤ (dl 0 l).length
  · rw [if_pos (by omega), if_pos (by omega), if_pos (by rw [List.length_append]; simp; omega), if_pos h]
    simp
  · rw [if_neg (by omega), if_pos (by omega), if_pos (by rw [List.length_append]; simp; omega), if_neg h]
    simp
theorem dl56 : dl 0 [5, 6] = [10, 2] := by
  have e1 : wrap64 (5 - 0) = 5 := wrap64_id (n := 5) (by decide) (by decide)
  have e2 : wrap64 (6 - 5) = 1 := wrap64_id (n := 1) (by decide) (by decide)
  have e3 : (zig 5).toNat = 10 := by decide
  have e4 : (zig 1).toNat = 2 := by decide
  simp only [dl, e1, e2, e3, e4]
  rw [pv_small (by decide), pv_small (by decide)]
  rfl
theorem put56 : put [5, 6] = [2, 1, 10, 2] := by
  unfold put
  rw [dl56, if_neg (by decide)]
  rw [show ([5, 6] : List Int).length = 2 from rfl, pv_small (by decide)]
  rfl
theorem shown_f (k : Nat) (hk : 30 < k) : thresherlaw05_shown.f k = some true := by
  unfold thresherlaw05_shown.f
  rw [ints_put_f [5, 6] k (by decide) (by simp; omega), Option.bind_some, put56, str_toList]
  decide

theorem putVar (x : Int) (h0 : 0 ≤ x) (h1 : x ≤ 18446744073709551615) (w : World) :
    Calls Try.prog 20 #[.int .u64 x] w fun e w' => ∃ v, e = .returned v ∧ Kd.R (Kd.int .u8) 5 w' w.heap.size (fun _ => True) v (pv x.toNat) ∧ Below w.heap.size w w' := by
  obtain ⟨n, rfl⟩ := Int.eq_ofNat_of_zero_le h0
  exact num_PutVar.calls 10 n (pv n) w (put_f n 10 (by omega) (Nat.le_refl _))
theorem delta (A : Option Addr) (c : Nat) (l : List Int) (w : World) (hr : Kd.C (Kd.int .i64) w A l.length l) (hc : l.length ≤ c) (hn : l.length < 1000000000) :
    Calls Try.prog 10 #[.slice A l.length c] w fun e w' => ∃ v, e = .returned v ∧ Kd.R (Kd.int .u8) 5 w' w.heap.size (fun _ => True) v (dl 0 l) ∧ Below w.heap.size w w' :=
  ints_Delta.calls (l.length + 11) A c l (dl 0 l) w hr hc (delta_f l _ hn (by omega))
theorem fixed (A : Option Addr) (c : Nat) (l : List Int) (w : World) (hr : Kd.C (Kd.int .i64) w A l.length l) (hc : l.length ≤ c) (hn : l.length < 1000000000) :
    Calls Try.prog 11 #[.slice A l.length c] w fun e w' => ∃ v, e = .returned v ∧ Kd.R (Kd.int .u8) 5 w' w.heap.size (fun _ => True) v (fx l) ∧ Below w.heap.size w w' :=
  ints_Fixed.calls (8 * l.length + 1) A c l (fx l) w hr hc (fixed_f l _ hn (by omega))
theorem putInts (A : Option Addr) (c : Nat) (l : List Int) (w : World) (hr : Kd.C (Kd.int .i64) w A l.length l) (hc : l.length ≤ c) (hn : l.length < 1000000000) :
    Calls Try.prog 13 #[.slice A l.length c] w fun e w' => ∃ v, e = .returned v ∧ Kd.R (Kd.int .u8) 5 w' w.heap.size (fun _ => True) v (put l) ∧ Below w.heap.size w w' :=
  ints_Put.calls (8 * l.length + 11) A c l (put l) w hr hc (ints_put_f l _ hn (by omega))
theorem shown (w : World) : Calls Try.prog 9 #[] w fun e w' => e = .returned (.bool true) ∧ Below w.heap.size w w' :=
  thresherlaw05_shown.calls 31 true w (shown_f 31 (by omega))

end Go.Proofs.Ytlhimfkhcdpciaa.CInts
