/- A number with a sign is got back from one without, and the other way round; small ones are small; and signs change places: of any two numbers, without a condition. -/
import Derived.Test.YtjemdpbbdkfamaaPNumTurnsx1
import Derived.Test.YtjemdpbbdkfamaaNum
namespace Go.Proofs.Ytjemdpbbdkfamaa.Pure
open Go.RowKit Go.Proofs.Ytjemdpbbdkfamaa.PNumTurns Go.Proofs.YtjemdpbbdkfamaaW.PrintWords Go.Proofs.YtjemdpbbdkfamaaW.PrintLast Go.Proofs.Ytjemdpbbdkfamaa.Num Go.Proofs.Ytjemdpbbdkfamaa.Bits

theorem nt_zig (n : Int) (h0 : -9223372036854775808 ≤ n) (h1 : n ≤ 9223372036854775807) : num_Zig.f n = some (zig n) := by
  unfold num_Zig.f; rw [zig_eq n h0 h1]
theorem nt_zag (u : Int) (h0 : 0 ≤ u) (h1 : u ≤ 18446744073709551615) : num_Zag.f u = some (zag u) := by
  unfold num_Zag.f; rw [zag_eq u h0 h1]
theorem nt_put (x : Nat) (k : Nat) (hx : x < 18446744073709551616) (hk : 10 ≤ k) : num_PutVar.f k x = some (pv x) := by
  unfold num_PutVar.f
  rw [putvar_loop (l0 := num_PutVar.l0) (fun _ _ _ => rfl) 9 x k [] (by omega) (by omega) (by simp)]
  simp
theorem pv300 : pv 300 = [172, 2] := by
  rw [pv_big (by decide), pv_small (by decide)]; rfl
theorem nt_shown (k : Nat) (hk : 10 ≤ k) : thresherlaw01_shown.f k = some true := by
  unfold thresherlaw01_shown.f
  have h := nt_put 300 k (by decide) hk
  rw [show ((300 : Nat) : Int) = 300 from rfl] at h
  rw [h, pv300]
  simp [rd, nt_zig, zig]

theorem nt_tail (n : Int) (k : Nat) (h0 : -9223372036854775808 ≤ n) (h1 : n ≤ 9223372036854775807) : thresherlaw01_NumTurns.j0 (k + 1) n true (zig n) false = some true := by
  rw [thresherlaw01_NumTurns.j0]
  rw [if_neg (by simp)]
  by_cases h : n ≥ 0
  · rw [if_pos h]
    by_cases h2 : n < 4611686018427387904
    · have e0 : zig n = 2 * n := by unfold zig; rw [if_pos h]
      have e1 : IntKind.u64.wrap (IntKind.u64.wrap n * 2) = 2 * n := by rw [wrap_u64, wrap_u64]; omega
      have e2 : wrap64 (wrap64 (-n) - 1) = -n - 1 := by rw [wrap64_id (n := -n) (by omega) (by omega), wrap64_id (by omega) (by omega)]
      have e3 : zig (-n - 1) = 2 * n + 1 := by unfold zig; rw [if_neg (by omega)]; omega
      have e4 : IntKind.u64.wrap (2 * n + 1) = 2 * n + 1 := wrap_u64_id (by omega) (by omega)
      rw [if_pos h2, if_pos (rfl : true = true), if_pos (by rw [e0, e1]), e2, nt_zig _ (by omega) (by omega), e3, e0, Option.bind_some, e4, beq_self_eq_true]
    · rw [if_neg h2]
  · rw [if_neg h]

theorem nt_odd (n : Int) : (((zig n % 2) == 1) != decide (n < 0)) = false := by
  by_cases h : n < 0
  · have e : zig n % 2 = 1 := by unfold zig; omega
    rw [e, decide_eq_true h]; rfl
  · have e : zig n % 2 = 0 := by unfold zig; omega
    rw [e, decide_eq_false h]; rfl

theorem NumTurns : thresherlaw01_NumTurns.Pure := by
  intro n u hn hu
  obtain ⟨n0, n1⟩ := wf_i64 hn
  obtain ⟨u0, u1⟩ := wf_u64 hu
  obtain ⟨z0, z1⟩ := zig_range n n0 n1
  obtain ⟨g0, g1⟩ := zag_range u u0 u1
  refine ⟨10, ?_⟩
  unfold thresherlaw01_NumTurns.f
  rw [nt_shown 10 (Nat.le_refl _), Option.bind_some, nt_zig n n0 n1, Option.bind_some, nt_zag _ z0 z1, Option.bind_some, if_pos (zag_zig n),
    nt_zag u u0 u1, Option.bind_some, nt_zig _ g0 g1, Option.bind_some, if_pos (zig_zag u u0), u64_and1 _ z0 (by omega), nt_odd]
  exact nt_tail n 9 n0 n1

end Go.Proofs.Ytjemdpbbdkfamaa.Pure
