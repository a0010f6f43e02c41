/-
  Contracts of PutVar, Zig, Zag and the example, out of the printed ones: what they compute, in plain words.
-/
import Derived.Test.YtjemdpbbdkfamaaPNumTurnsx1
import Derived.Test.YtjemdpbbdkfamaaNum
namespace Go.Proofs.Ytjemdpbbdkfamaa.CNum
open Go.RowKit Go.Proofs.Ytjemdpbbdkfamaa.PNumTurns Go.Proofs.YtjemdpbbdkfamaaW.PrintWords Go.Proofs.YtjemdpbbdkfamaaW.PrintLast Go.Proofs.YtjemdpbbdkfamaaW.PrintMore Go.Proofs.Ytjemdpbbdkfamaa.Num Go.Proofs.Ytjemdpbbdkfamaa.Bits

theorem zig_f (n : Int) (h0 : -9223372036854775808 ≤ n) (h1 : n ≤ 9223372036854775807) : num_Zig.f n = some (zig n) := by
  unfold num_Zig.f; rw [zig_eq n h0 h1]
theorem zag_f (u : Int) (h0 : 0 ≤ u) (h1 : u ≤ 18446744073709551615) : num_Zag.f u = some (zag u) := by
  unfold num_Zag.f; rw [zag_eq u h0 h1]
theorem put_f (x : Nat) (k : Nat) (hx : x < 18446744073709551616) (hk : 10 ≤ k) : num_PutVar.f k x = some (pv x) := by
  unfold num_PutVar.f
  rw [putvar_loop (l0 := num_PutVar.l0) (fun _ _ _ => rfl) 9 x k [] (by omega) (by omega) (by simp)]
  simp
theorem pv300 : pv 300 = [172, 2] := by
  rw [pv_big (by decide), pv_small (by decide)]; rfl
theorem shown_f (k : Nat) (hk : 10 ≤ k) : thresherlaw01_shown.f k = some true := by
  unfold thresherlaw01_shown.f
  have h := put_f 300 k (by decide) hk
  rw [show ((300 : Nat) : Int) = 300 from rfl] at h
  rw [h, pv300]
  simp [rd, zig_f, zig]

theorem putVar (x : Int) (h0 : 0 ≤ x) (h1 : x ≤ 18446744073709551615) (w : World) :
    Calls Try.prog 10 #[.int .u64 x] w fun e w' => ∃ v, e = .returned v ∧ Kd.R (Kd.int .u8) 5 w' w.heap.size (fun _ => True) v (pv x.toNat) ∧ Below w.heap.size w w' := by
  obtain ⟨n, rfl⟩ := Int.eq_ofNat_of_zero_le h0
  exact num_PutVar.calls 10 n (pv n) w (put_f n 10 (by omega) (Nat.le_refl _))
theorem zig_any (n : Int) (h0 : -9223372036854775808 ≤ n) (h1 : n ≤ 9223372036854775807) (w : World) :
    Calls Try.prog 11 #[.int .i64 n] w fun e w' => e = .returned (.int .u64 (zig n)) ∧ Drawn0 w w' :=
  num_Zig.calls n _ w (zig_f n h0 h1)
theorem zag_any (u : Int) (h0 : 0 ≤ u) (h1 : u ≤ 18446744073709551615) (w : World) :
    Calls Try.prog 12 #[.int .u64 u] w fun e w' => e = .returned (.int .i64 (zag u)) ∧ Drawn0 w w' :=
  num_Zag.calls u _ w (zag_f u h0 h1)
theorem shown (w : World) : Calls Try.prog 9 #[] w fun e w' => e = .returned (.bool true) ∧ Below w.heap.size w w' :=
  thresherlaw01_shown.calls 10 true w (shown_f 10 (Nat.le_refl _))

end Go.Proofs.Ytjemdpbbdkfamaa.CNum
