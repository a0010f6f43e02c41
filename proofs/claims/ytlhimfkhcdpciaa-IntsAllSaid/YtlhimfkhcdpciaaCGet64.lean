/-
  The contract of Get64; the eight bytes of a number.
-/
import Derived.Test.YtlhimfkhcdpciaaHold
import Derived.Test.YtlhimfkhcdpciaaVarM
import Derived.Test.YtlhimfkhcdpciaaProg
namespace Go.Proofs.Ytlhimfkhcdpciaa.CGet64
open Go.RowKit Go.Proofs.YtlhimfkhcdpciaaW.PrintWords Go.Proofs.YtlhimfkhcdpciaaW.PrintLast Go.Proofs.YtlhimfkhcdpciaaW.PrintMore Go.Proofs.Ytlhimfkhcdpciaa.Num Go.Proofs.Ytlhimfkhcdpciaa.Bits Go.Proofs.Ytlhimfkhcdpciaa.VarM Go.Proofs.Ytlhimfkhcdpciaa.Hold
set_option linter.unusedVariables false
set_option linter.unusedSimpArgs false
attribute [local go_sem] max2_int min2_int max_two min_two max_three min_three max_four min_four

/-- The eight bytes of a number. -/
def cl (x : Int) : List Int := [x % 256, x / 256 % 256, x / 65536 % 256, x / 16777216 % 256, x / 4294967296 % 256, x / 1099511627776 % 256, x / 281474976710656 % 256, x / 72057594037927936]
theorem cl_length (x : Int) : (cl x).length = 8 := rfl
theorem cl_bytes (x : Int) (h0 : 0 ≤ x) (h1 : x ≤ 18446744073709551615) : Bytes (cl x) := by
  intro c hc
  simp only [cl, List.mem_cons, List.not_mem_nil, or_false] at hc
  omega
/-- The number of the first i bytes. -/
def v8 (l : List Int) : Nat → Int
  | 0 => 0
  | i + 1 => v8 l i + l.getD i 0 * 2 ^ (8 * i)
theorem v8_lt (l : List Int) (hb : Bytes l) : ∀ i, 0 ≤ v8 l i ∧ v8 l i < 2 ^ (8 * i)
  | 0 => ⟨Int.le_refl _, by simp [v8]⟩
  | i + 1 => by
    obtain ⟨h0, h1⟩ := v8_lt l hb i
    have hc : 0 ≤ l.getD i 0 ∧ l.getD i 0 ≤ 255 := by
      by_cases h : i < l.length
      · have := hb (l.getD i 0) (by simp [List.getD, List.getElem?_eq_getElem h])
        omega
      · simp [List.getD, List.getElem?_eq_none (Nat.not_lt.1 h)]
    have hp : (0 : Int) < 2 ^ (8 * i) := Int.pow_pos (by decide)
    have h2 : 0 ≤ l.getD i 0 * 2 ^ (8 * i) := Int.mul_nonneg hc.1 (by omega)
    have h3 : l.getD i 0 * 2 ^ (8 * i) ≤ 255 * 2 ^ (8 * i) := Int.mul_le_mul_of_nonneg_right hc.2 (by omega)
    have h4 : (2 : Int) ^ (8 * (i + 1)) = 256 * 2 ^ (8 * i) := by
      rw [show 8 * (i + 1) = 8 + 8 * i by omega, Int.pow_add]; rfl
    rw [v8, h4]
    omega
def g64 (l : List Int) : Int × Bool := if l.length < 8 then (0, false) else (v8 l 8, true)
theorem info_u8 : (Try.prog.info? 5).map (fun i => (i.zero, i.size, i.bytes)) = some (some (.int .u8 0), 1, 1) := by kernel_rfl
theorem or_join (i : Nat) (hi : i < 8) (a c P : Int) (hP : (2 : Int) ^ (8 * i) = P) (ha : 0 ≤ a ∧ a < P) (hc : 0 ≤ c ∧ c < 256) (hfit : c * P < 18446744073709551616) (h0 : 0 ≤ c * P) (hP64 : P ≤ 18446744073709551616) : Go.bits .or .u64 a (c * P) = a + c * P := by
  rw [bits_or_comm, u64_join (8 * i) (c * P) a h0 (by rw [hP]; exact Int.mul_emod_left c P) hfit ha.1 (by rw [hP]; exact ha.2) (Int.lt_of_lt_of_le ha.2 hP64), Int.add_comm]

set_option maxHeartbeats 8000000 in
set_option maxRecDepth 100000 in
theorem get64 (A : Option Addr) (c : Nat) (l : List Int) (w : World) (hr : Kd.C (Kd.int .u8) w A l.length l) (hc : l.length ≤ c) (hb : Bytes l) :
    Calls Try.prog 33 #[.slice A l.length c] w fun e w' => e = .returned (.tuple #[.int .u64 (g64 l).1, .bool (g64 l).2]) ∧ w = w' := by
  have hmax := Kd.C_max hr
  by_cases h8 : l.length < 8
  · have e : g64 l = (0, false) := if_pos h8
    rw [e]
    clear e
    go_enter Try.func33, Try.ntmps33
    go_wp2_with (fail)
    go_ret2
    exact ⟨rfl, rfl⟩
  · have e : g64 l = (v8 l 8, true) := if_neg h8
    rw [e]
    clear e
    obtain ⟨ad, hA, hcells⟩ := C_cells hr (by omega)
    subst hA
    have HC := Aside0.mk hcells
    clear hcells hr
    have HB := Aside0.mk hb
    clear hb
    have hcut := cutTo (P := Try.prog) 26 5 Try.underlying26 info_u8 (some ad) l.length c 8 (by omega) (by omega) hc
    have h80 : decide ((l.length : Int) < 8) = false := decide_eq_false (by omega)
    go_enter Try.func33, Try.ntmps33
    go_wp2_with (fail)
    go_loopw [4, 13] (fun v4 v13 wr => ∃ i : Nat, v4 = .int .u64 (v8 l i) ∧ v13 = .int .i64 i ∧ i ≤ 8 ∧ wr = w) (fun _ v13 _ => 8 - (intOf v13).toNat)
    case atStart => exact ⟨0, rfl, rfl, by omega, rfl⟩
    case round =>
      obtain ⟨i, rfl, rfl, hi8, rfl⟩ := hrel
      match i, hi8 with
      | 0, _ =>
        have hcell := cells0 HC.out (by omega)
        rw [show ((0 : Nat) : Int) = 0 from rfl]
        have hx := HB.out (l.getD 0 0) (by simp [List.getD, List.getElem?_eq_getElem (show 0 < l.length by omega)])
        have hv := v8_lt l HB.out 0
        have he : v8 l 1 = v8 l 0 + l.getD 0 0 * 1 := by rw [v8]; rfl
        obtain ⟨a, ha⟩ : ∃ a, v8 l 0 = a := ⟨_, rfl⟩
        obtain ⟨x, hxe⟩ : ∃ x, l.getD 0 0 = x := ⟨_, rfl⟩
        rw [hxe] at hcell hx he
        rw [ha] at hv he ⊢
        have HE := Aside0.mk he
        clear ha hxe he
        have hP : (2 : Int) ^ (8 * 0) = 1 := by decide
        rw [hP] at hv
        have hor := or_join 0 (by omega) a x 1 hP hv hx (by omega) (by omega) (by omega)
        clear hP
        rw [Int.mul_one] at hor
        go_wp2_with (fail)
        go_roundw
        case rel => exact ⟨1, by rw [HE.out]; simp, by go_num, by omega, by first | rfl | trivial⟩
        case measure => simp [intOf]
      | 1, _ =>
        have hcell : wr.cell? ⟨ad.block, ad.off + 1, none⟩ = some (.int .u8 (l.getD 1 0)) := HC.out 1 (by omega)
        rw [show ((1 : Nat) : Int) = 1 from rfl]
        have hx := HB.out (l.getD 1 0) (by simp [List.getD, List.getElem?_eq_getElem (show 1 < l.length by omega)])
        have hv := v8_lt l HB.out 1
        have he : v8 l 2 = v8 l 1 + l.getD 1 0 * 256 := by rw [v8]; rfl
        obtain ⟨a, ha⟩ : ∃ a, v8 l 1 = a := ⟨_, rfl⟩
        obtain ⟨x, hxe⟩ : ∃ x, l.getD 1 0 = x := ⟨_, rfl⟩
        rw [hxe] at hcell hx he
        rw [ha] at hv he ⊢
        have HE := Aside0.mk he
        clear ha hxe he
        have hP : (2 : Int) ^ (8 * 1) = 256 := by decide
        rw [hP] at hv
        have hor := or_join 1 (by omega) a x 256 hP hv hx (by omega) (by omega) (by omega)
        clear hP
        go_wp2_with (fail)
        go_roundw
        case rel => exact ⟨2, by rw [HE.out], by go_num, by omega, by first | rfl | trivial⟩
        case measure => simp [intOf]
      | 2, _ =>
        have hcell : wr.cell? ⟨ad.block, ad.off + 2, none⟩ = some (.int .u8 (l.getD 2 0)) := HC.out 2 (by omega)
        rw [show ((2 : Nat) : Int) = 2 from rfl]
        have hx := HB.out (l.getD 2 0) (by simp [List.getD, List.getElem?_eq_getElem (show 2 < l.length by omega)])
        have hv := v8_lt l HB.out 2
        have he : v8 l 3 = v8 l 2 + l.getD 2 0 * 65536 := by rw [v8]; rfl
        obtain ⟨a, ha⟩ : ∃ a, v8 l 2 = a := ⟨_, rfl⟩
        obtain ⟨x, hxe⟩ : ∃ x, l.getD 2 0 = x := ⟨_, rfl⟩
        rw [hxe] at hcell hx he
        rw [ha] at hv he ⊢
        have HE := Aside0.mk he
        clear ha hxe he
        have hP : (2 : Int) ^ (8 * 2) = 65536 := by decide
        rw [hP] at hv
        have hor := or_join 2 (by omega) a x 65536 hP hv hx (by omega) (by omega) (by omega)
        clear hP
        go_wp2_with (fail)
        go_roundw
        case rel => exact ⟨3, by rw [HE.out], by go_num, by omega, by first | rfl | trivial⟩
        case measure => simp [intOf]
      | 3, _ =>
        have hcell : wr.cell? ⟨ad.block, ad.off + 3, none⟩ = some (.int .u8 (l.getD 3 0)) := HC.out 3 (by omega)
        rw [show ((3 : Nat) : Int) = 3 from rfl]
        have hx := HB.out (l.getD 3 0) (by simp [List.getD, List.getElem?_eq_getElem (show 3 < l.length by omega)])
        have hv := v8_lt l HB.out 3
        have he : v8 l 4 = v8 l 3 + l.getD 3 0 * 16777216 := by rw [v8]; rfl
        obtain ⟨a, ha⟩ : ∃ a, v8 l 3 = a := ⟨_, rfl⟩
        obtain ⟨x, hxe⟩ : ∃ x, l.getD 3 0 = x := ⟨_, rfl⟩
        rw [hxe] at hcell hx he
        rw [ha] at hv he ⊢
        have HE := Aside0.mk he
        clear ha hxe he
        have hP : (2 : Int) ^ (8 * 3) = 16777216 := by decide
        rw [hP] at hv
        have hor := or_join 3 (by omega) a x 16777216 hP hv hx (by omega) (by omega) (by omega)
        clear hP
        go_wp2_with (fail)
        go_roundw
        case rel => exact ⟨4, by rw [HE.out], by go_num, by omega, by first | rfl | trivial⟩
        case measure => simp [intOf]
      | 4, _ =>
        have hcell : wr.cell? ⟨ad.block, ad.off + 4, none⟩ = some (.int .u8 (l.getD 4 0)) := HC.out 4 (by omega)
        rw [show ((4 : Nat) : Int) = 4 from rfl]
        have hx := HB.out (l.getD 4 0) (by simp [List.getD, List.getElem?_eq_getElem (show 4 < l.length by omega)])
        have hv := v8_lt l HB.out 4
        have he : v8 l 5 = v8 l 4 + l.getD 4 0 * 4294967296 := by rw [v8]; rfl
        obtain ⟨a, ha⟩ : ∃ a, v8 l 4 = a := ⟨_, rfl⟩
        obtain ⟨x, hxe⟩ : ∃ x, l.getD 4 0 = x := ⟨_, rfl⟩
        rw [hxe] at hcell hx he
        rw [ha] at hv he ⊢
        have HE := Aside0.mk he
        clear ha hxe he
        have hP : (2 : Int) ^ (8 * 4) = 4294967296 := by decide
        rw [hP] at hv
        have hor := or_join 4 (by omega) a x 4294967296 hP hv hx (by omega) (by omega) (by omega)
        clear hP
        go_wp2_with (fail)
        go_roundw
        case rel => exact ⟨5, by rw [HE.out], by go_num, by omega, by first | rfl | trivial⟩
        case measure => simp [intOf]
      | 5, _ =>
        have hcell : wr.cell? ⟨ad.block, ad.off + 5, none⟩ = some (.int .u8 (l.getD 5 0)) := HC.out 5 (by omega)
        rw [show ((5 : Nat) : Int) = 5 from rfl]
        have hx := HB.out (l.getD 5 0) (by simp [List.getD, List.getElem?_eq_getElem (show 5 < l.length by omega)])
        have hv := v8_lt l HB.out 5
        have he : v8 l 6 = v8 l 5 + l.getD 5 0 * 1099511627776 := by rw [v8]; rfl
        obtain ⟨a, ha⟩ : ∃ a, v8 l 5 = a := ⟨_, rfl⟩
        obtain ⟨x, hxe⟩ : ∃ x, l.getD 5 0 = x := ⟨_, rfl⟩
        rw [hxe] at hcell hx he
        rw [ha] at hv he ⊢
        have HE := Aside0.mk he
        clear ha hxe he
        have hP : (2 : Int) ^ (8 * 5) = 1099511627776 := by decide
        rw [hP] at hv
        have hor := or_join 5 (by omega) a x 1099511627776 hP hv hx (by omega) (by omega) (by omega)
        clear hP
        go_wp2_with (fail)
        go_roundw
        case rel => exact ⟨6, by rw [HE.out], by go_num, by omega, by first | rfl | trivial⟩
        case measure => simp [intOf]
      | 6, _ =>
        have hcell : wr.cell? ⟨ad.block, ad.off + 6, none⟩ = some (.int .u8 (l.getD 6 0)) := HC.out 6 (by omega)
        rw [show ((6 : Nat) : Int) = 6 from rfl]
        have hx := HB.out (l.getD 6 0) (by simp [List.getD, List.getElem?_eq_getElem (show 6 < l.length by omega)])
        have hv := v8_lt l HB.out 6
        have he : v8 l 7 = v8 l 6 + l.getD 6 0 * 281474976710656 := by rw [v8]; rfl
        obtain ⟨a, ha⟩ : ∃ a, v8 l 6 = a := ⟨_, rfl⟩
        obtain ⟨x, hxe⟩ : ∃ x, l.getD 6 0 = x := ⟨_, rfl⟩
        rw [hxe] at hcell hx he
        rw [ha] at hv he ⊢
        have HE := Aside0.mk he
        clear ha hxe he
        have hP : (2 : Int) ^ (8 * 6) = 281474976710656 := by decide
        rw [hP] at hv
        have hor := or_join 6 (by omega) a x 281474976710656 hP hv hx (by omega) (by omega) (by omega)
        clear hP
        go_wp2_with (fail)
        go_roundw
        case rel => exact ⟨7, by rw [HE.out], by go_num, by omega, by first | rfl | trivial⟩
        case measure => simp [intOf]
      | 7, _ =>
        have hcell : wr.cell? ⟨ad.block, ad.off + 7, none⟩ = some (.int .u8 (l.getD 7 0)) := HC.out 7 (by omega)
        rw [show ((7 : Nat) : Int) = 7 from rfl]
        have hx := HB.out (l.getD 7 0) (by simp [List.getD, List.getElem?_eq_getElem (show 7 < l.length by omega)])
        have hv := v8_lt l HB.out 7
        have he : v8 l 8 = v8 l 7 + l.getD 7 0 * 72057594037927936 := by rw [v8]; rfl
        obtain ⟨a, ha⟩ : ∃ a, v8 l 7 = a := ⟨_, rfl⟩
        obtain ⟨x, hxe⟩ : ∃ x, l.getD 7 0 = x := ⟨_, rfl⟩
        rw [hxe] at hcell hx he
        rw [ha] at hv he ⊢
        have HE := Aside0.mk he
        clear ha hxe he
        have hP : (2 : Int) ^ (8 * 7) = 72057594037927936 := by decide
        rw [hP] at hv
        have hor := or_join 7 (by omega) a x 72057594037927936 hP hv hx (by omega) (by omega) (by omega)
        clear hP
        go_wp2_with (fail)
        go_roundw
        case rel => exact ⟨8, by rw [HE.out], by go_num, by omega, by first | rfl | trivial⟩
        case measure => simp [intOf]
      | 8, _ =>
        go_wp2_with (fail)
        go_ret2
        exact ⟨rfl, rfl⟩

end Go.Proofs.Ytlhimfkhcdpciaa.CGet64
