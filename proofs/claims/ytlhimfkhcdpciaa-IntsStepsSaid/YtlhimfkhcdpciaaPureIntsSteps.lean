/- Numbers that go on by one step have a byte each, but the first one, if the step is small; and they go round. -/
import Derived.Test.YtlhimfkhcdpciaaCInts
namespace Go.Proofs.Ytlhimfkhcdpciaa.PureIntsSteps
open Go.RowKit Go.Proofs.Ytlhimfkhcdpciaa.QIntsSteps Go.Proofs.YtlhimfkhcdpciaaW.PrintWords Go.Proofs.YtlhimfkhcdpciaaW.PrintLast Go.Proofs.Ytlhimfkhcdpciaa.Num Go.Proofs.Ytlhimfkhcdpciaa.Bits Go.Proofs.Ytlhimfkhcdpciaa.Ints Go.Proofs.Ytlhimfkhcdpciaa.CInts

/-- Numbers that go on by one step. -/
def st (k : Int) : Nat → Int → List Int
  | 0, _ => []
  | m + 1, x => x :: st k m (wrap64 (x + k))
theorem st_length (k : Int) (m : Nat) : ∀ x, (st k m x).length = m := by
  induction m with
  | zero => intro x; rfl
  | succ m ih => intro x; simp [st, ih]
theorem dl_st (k : Int) (k0 : -64 ≤ k) (k1 : k ≤ 63) (m : Nat) : ∀ x, I64 x → (dl x (st k m (wrap64 (x + k)))).length = m := by
  induction m with
  | zero => intro x _; rfl
  | succ m ih =>
    intro x hx
    simp only [st, dl, List.length_append]
    rw [ih _ (wrap64_i64 _)]
    have e : wrap64 (wrap64 (x + k) - x) = k := by unfold I64 at hx; unfold wrap64; omega
    have e2 : (zig k).toNat < 128 := by unfold zig; split <;> omega
    rw [e, pv_small e2]
    simp; omega

theorem tail (n kk first x : Int) (m k : Nat) (hm : n = (m : Int) + 1) (hn2 : n ≤ 60) (hk0 : -64 ≤ kk) (hk1 : kk ≤ 63) (hk : 600 < k) (hf : I64 first) :
    thresherlaw05_IntsSteps.l0 (k + 1) true n kk (st kk (m + 1) first) x n = some true := by
  have hs := st_length kk (m + 1) first
  have e1 : (st kk (m + 1) first).take 1 = [first] := rfl
  have e2 : dl 0 (st kk (m + 1) first) = pv (zig (wrap64 (first - 0))).toNat ++ dl first (st kk m (wrap64 (first + kk))) := rfl
  have e3 : dl 0 [first] = pv (zig (wrap64 (first - 0))).toNat := by simp [dl]
  have hz := zig_range _ (wrap64_i64 (first - 0)).1 (wrap64_i64 (first - 0)).2
  have h10 := pv_le10 (zig (wrap64 (first - 0))).toNat (by omega)
  have h1 := pv_pos (zig (wrap64 (first - 0))).toNat
  have hd := dl_st kk hk0 hk1 m first hf
  have hfx := fx_length (st kk (m + 1) first)
  rw [thresherlaw05_IntsSteps.l0, if_neg (by omega), delta_f _ k (by omega) (by omega), Option.bind_some, if_pos (by omega), e1, delta_f _ k (by simp) (by simp; omega), Option.bind_some, if_pos rfl, e2, e3]
  rw [List.length_append, hd, wrap64_id (n := _ + n) (by omega) (by omega), wrap64_id (n := _ + n - 1) (by omega) (by omega), if_pos (by omega), if_pos (by omega), if_pos (by omega), fixed_f _ k (by omega) (by omega), Option.bind_some,
    wrap64_id (by omega) (by omega), hfx, hs]
  congr 1
  rw [beq_iff_eq]
  omega

theorem loop (n kk first : Int) (hn2 : n ≤ 60) (hk0 : -64 ≤ kk) (hk1 : kk ≤ 63) (hf : I64 first) (hn1 : 1 ≤ n) (d : Nat) :
    ∀ (k i : Nat) (x : Int) (acc : List Int), (i : Int) + d = n → 700 + d < k → acc.length = i → acc ++ st kk d x = st kk n.toNat first →
      thresherlaw05_IntsSteps.l0 k true n kk acc x i = some true := by
  induction d with
  | zero =>
    intro k i x acc hi hk ha he
    obtain ⟨k, rfl⟩ : ∃ m, k = m + 1 := ⟨k - 1, by omega⟩
    have e : (i : Int) = n := by omega
    obtain ⟨m, hm⟩ : ∃ m, n.toNat = m + 1 := ⟨n.toNat - 1, by omega⟩
    rw [hm] at he
    rw [e, show acc = st kk (m + 1) first from by rw [← he]; simp [st]]
    exact tail n kk first x m k (by omega) hn2 hk0 hk1 (by omega) hf
  | succ d ih =>
    intro k i x acc hi hk ha he
    obtain ⟨k, rfl⟩ : ∃ m, k = m + 1 := ⟨k - 1, by omega⟩
    have e : wrap64 ((i : Int) + 1) = ((i + 1 : Nat) : Int) := by rw [wrap64_id (by omega) (by omega)]; rfl
    rw [thresherlaw05_IntsSteps.l0, if_pos (by omega), if_pos (by omega), e]
    exact ih k (i + 1) _ _ (by omega) (by omega) (by simp [ha]) (by rw [← he]; simp [st])

theorem IntsSteps : thresherlaw05_IntsSteps.Pure := by
  intro first step many hf hs hm
  obtain ⟨s0, s1⟩ := wf_i8 hs
  obtain ⟨m0, m1⟩ := wf_u8 hm
  refine ⟨1000, ?_⟩
  unfold thresherlaw05_IntsSteps.f
  have e1 : wrap64 (1 + Int.tmod (wrap64 many) 60) = 1 + many % 60 := by
    rw [wrap64_id (n := many) (by omega) (by omega), Int.tmod_eq_emod_of_nonneg m0, wrap64_id (by omega) (by omega)]
  have e2 : wrap64 (step / 2) = step / 2 := wrap64_id (by omega) (by omega)
  rw [shown_f 1000 (by omega), Option.bind_some, e1, e2]
  have h := loop (1 + many % 60) (step / 2) first (by omega) (by omega) (by omega) (wf_i64 hf) (by omega) (1 + many % 60).toNat 1000 0 first [] (by omega) (by omega) rfl rfl
  exact h

theorem walk (a0 a1 a2 : Int) (w : World) (w0 : (Lit.int .i64 a0).wf = true) (w1 : (Lit.int .i8 a1).wf = true) (w2 : (Lit.int .u8 a2).wf = true) :
    Calls Try.prog 3 #[.int .i64 a0, .int .i8 a1, .int .u8 a2] w fun e w' => e = .returned (.bool true) ∧ Below w.heap.size w w' :=
  thresherlaw05_IntsSteps.walk IntsSteps a0 a1 a2 w w0 w1 w2

end Go.Proofs.Ytlhimfkhcdpciaa.PureIntsSteps
