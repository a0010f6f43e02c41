/-
  The contract of texts.Each.
-/
import Derived.Test.YtnecipeckamiiaaQTextsAllx1
import Derived.Test.YtnecipeckamiiaaTextsT
import Derived.Test.YtnecipeckamiiaaHoldS
import Derived.Test.YtnecipeckamiiaaCVar
namespace Go.Proofs.Ytnecipeckamiiaa.CEach
open Go.RowKit Go.Proofs.Ytnecipeckamiiaa.QTextsAll Go.Proofs.YtnecipeckamiiaaW.PrintWords Go.Proofs.YtnecipeckamiiaaW.PrintLast Go.Proofs.YtnecipeckamiiaaW.PrintMore Go.Proofs.Ytnecipeckamiiaa.Num Go.Proofs.Ytnecipeckamiiaa.Bits Go.Proofs.Ytnecipeckamiiaa.VarM Go.Proofs.Ytnecipeckamiiaa.TextsT Go.Proofs.Ytnecipeckamiiaa.Hold Go.Proofs.Ytnecipeckamiiaa.HoldS
set_option linter.unusedVariables false
set_option linter.unusedSimpArgs false
attribute [local go_sem] max2_int min2_int max_two min_two max_three min_three max_four min_four

theorem info_u8 : (Try.prog.info? 5).map (fun i => (i.zero, i.size, i.bytes)) = some (some (.int .u8 0), 1, 1) := by kernel_rfl
theorem info_str : (Try.prog.info? 9).map (fun i => (i.zero, i.size, i.bytes)) = some (some (.string ⟨#[]⟩), 1, 16) := by kernel_rfl
theorem put_f (x : Nat) (k : Nat) (hx : x < 18446744073709551616) (hk : 10 ≤ k) : num_PutVar.f k x = some (pv x) := by
  unfold num_PutVar.f
  rw [putvar_loop (l0 := num_PutVar.l0) (fun _ _ _ => rfl) 9 x k [] (by omega) (by omega) (by simp)]
  simp
theorem putVar (x : Int) (h0 : 0 ≤ x) (h1 : x ≤ 18446744073709551615) (w : World) :
    Calls Try.prog 20 #[.int .u64 x] w fun e w' => ∃ v, e = .returned v ∧ Kd.R (Kd.int .u8) 5 w' w.heap.size (fun _ => True) v (pv x.toNat) ∧ Below w.heap.size w w' := by
  obtain ⟨n, rfl⟩ := Int.eq_ofNat_of_zero_le h0
  exact num_PutVar.calls 10 n (pv n) w (put_f n 10 (by omega) (Nat.le_refl _))
theorem each_snoc (l : List ByteArray) (i : Nat) (h : i < l.length) : each (l.take (i + 1)) = each (l.take i) ++ (pv (rdOf ByteArray.empty l i).size ++ bytesOf (rdOf ByteArray.empty l i)) := by
  have e : ∀ a b : List ByteArray, each (a ++ b) = each a ++ each b := fun a b => by
    induction a with
    | nil => rfl
    | cons s a ih => simp [each, ih]
  rw [List.take_succ_eq_append_getElem h, e]
  simp [each, rdOf, List.getD_eq_getElem?_getD, h]
theorem each_le (l : List ByteArray) (N : Nat) (h : ∀ s ∈ l, s.size ≤ N) (hN : N < 18446744073709551616) : (each l).length ≤ l.length * (N + 10) := by
  induction l with
  | nil => simp [each]
  | cons s l ih =>
    have h1 := ih (fun x hx => h x (List.mem_cons_of_mem _ hx))
    have h2 := h s List.mem_cons_self
    have h3 := pv_le10 s.size (by omega)
    rw [each, List.length_append, List.length_append, bytesOf_length, List.length_cons, Nat.succ_mul]
    omega

set_option maxHeartbeats 8000000 in
set_option maxRecDepth 100000 in
theorem eachC (A : Option Addr) (c : Nat) (l : List ByteArray) (w : World) (hr : Kd.C Kd.string w A l.length l) (hc : l.length ≤ c) (hl : l.length ≤ 2000) (hs : ∀ s ∈ l, s.size ≤ 1000) :
    Calls Try.prog 12 #[.slice A l.length c] w fun e w' => ∃ v, e = .returned v ∧ Kd.R (Kd.int .u8) 5 w' w.heap.size (fun _ => True) v (each l) ∧ Below w.heap.size w w' := by
  have HR := Aside0.mk hr
  have HS := Aside0.mk hs
  clear hr hs
  go_enter Try.func12, Try.ntmps12
  go_wp2_with (fail)
  go_loopw [3, 8] (fun v3 v8 wr => ∃ i : Nat, v8 = .int .i64 i ∧ i ≤ l.length ∧ Aside0 (Kd.R (Kd.int .u8) 5 wr w.heap.size (fun _ => True) v3 (each (l.take i))) ∧ Aside0 (Below w.heap.size w wr)) (fun _ v8 _ => l.length - (intOf v8).toNat)
  case atStart => exact ⟨0, by go_num, by omega, ⟨by simpa [each] using HoldS.R_nil _ _ _⟩, ⟨Below.refl _ _⟩⟩
  case round =>
    obtain ⟨i, rfl, hil, HO, HB⟩ := hrel
    by_cases hi : i < l.length
    · obtain ⟨ad, rfl, hcell⟩ := Kd.at_string (Kd.C_below HR.out HB.out) (i : Int) (by omega) (by omega)
      have hiI : (i : Int) < (l.length : Int) := by omega
      have hi0 : (0 : Int) ≤ (i : Int) := by omega
      obtain ⟨s, hsx⟩ : ∃ s, rdOf ByteArray.empty l (i : Int) = s := ⟨_, rfl⟩
      have hs1 : s.size ≤ 1000 := by
        rw [← hsx, rdOf, Int.toNat_natCast, List.getD_eq_getElem?_getD, List.getElem?_eq_getElem hi]
        exact HS.out _ (List.getElem_mem hi)
      have hsn := Aside0.mk (each_snoc l i hi)
      rw [hsx] at hcell hsn
      rw [Int.toNat_natCast] at hcell
      clear hsx
      have hEl : (each (l.take i)).length ≤ 2020000 := by
        have := each_le (l.take i) 1000 (fun x hx => HS.out x (List.mem_of_mem_take hx)) (by decide)
        have h2 : (l.take i).length ≤ 2000 := by rw [List.length_take]; omega
        have h3 := Nat.mul_le_mul_right (1000 + 10) h2
        omega
      have hEl2 := Aside0.mk hEl
      have hpl := Aside0.mk (pv_le10 s.size (by omega))
      have hwr : wrap64 ((i : Int) + 1) = ((i + 1 : Nat) : Int) := by rw [wrap64_id (by omega) (by omega)]; rfl
      have hwu : IntKind.u64.wrap (s.size : Int) = (s.size : Int) := wrap_u64_id (by omega) (by omega)
      generalize each (l.take i) = E at HO hsn hEl2
      clear hEl
      go_wp2_with (fail)
      refine (putVar (s.size : Int) (by omega) (by omega) _).mono ?_; rintro e w1 ⟨v, rfl, ho, hb⟩
      rw [Int.toNat_natCast] at ho
      obtain ⟨Ap, cp, rfl, lp, ho⟩ := R_C ho
      have HP := Aside0.mk ho
      replace HO := Aside0.mk (Kd.R_below HO.out hb)
      replace HB := Aside0.mk (below_step HB.out hb)
      clear ho hb hcell hwu
      generalize pv s.size = P at HP lp hpl hsn ⊢
      go_wp2_with (first
        | (at_builtin; refine appendRow (k := .u8) (w0 := w) rfl (.tmp 12) (.tmp 16) 25 5 1 rfl Try.underlying25 info_u8 (by decide) _ E P Ap P.length cp rfl rfl HO.out HP.out HB.out (by have := hEl2.out; have := hpl.out; omega) ?_; intro v2 w2 ho2 hb2; have HO2 := Aside0.mk ho2; have HB2 := Aside0.mk hb2; clear ho2 hb2)
        | (at_builtin; refine appendStr (w0 := w) rfl (.tmp 17) (.tmp 18) 25 9 5 rfl Try.underlying25 Try.underlying9 info_u8 _ (E ++ P) s rfl rfl HO2.out HB2.out (by have := hEl2.out; have := hpl.out; rw [List.length_append]; omega) ?_; intro v3 w3 ho3 hb3; have HO3 := Aside0.mk ho3; have HB3 := Aside0.mk hb3; clear ho3 hb3))
      go_roundw
      case rel => exact ⟨i + 1, by go_num, by omega, ⟨by rw [hsn.out, ← List.append_assoc]; exact HO3.out⟩, HB3⟩
      case measure => clear hwr; simp [intOf]; omega
    · obtain rfl : i = l.length := by omega
      have hT := HO.out
      rw [List.take_of_length_le (Nat.le_refl _)] at hT
      have HT := Aside0.mk hT
      clear hT HO
      go_wp2_with (fail)
      go_ret
      exact ⟨_, rfl, HT.out, HB.out⟩

end Go.Proofs.Ytnecipeckamiiaa.CEach
