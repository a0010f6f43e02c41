/- Contracts of the program's functions, as the walks of the law use them. -/
import Derived.RowKit
import Derived.Laws.BitsLemmas
import Derived.Laws.BytesArg
import Derived.Laws.Strings
set_option linter.unusedVariables false
set_option linter.unusedSimpArgs false
set_option maxRecDepth 100000
set_option maxHeartbeats 200000
namespace Go.Proofs.YtbjeejimedhniaaGreatDoor
namespace Bits
open Go.RowKit

theorem wrap_u64 (n : Int) : IntKind.u64.wrap n = n % 18446744073709551616 := by
 simp [IntKind.wrap, IntKind.bits, IntKind.signed]
theorem wraps_u64 (n : Int) (h0 : 0 ≤ n) (h1 : n < 2 ^ 64) : IntKind.u64.wrap n = n := by
 rw [wrap_u64]; omega
theorem wrap_u64_id {n : Int} (h0 : 0 ≤ n) (h1 : n < 18446744073709551616) : IntKind.u64.wrap n = n := by
 rw [wrap_u64]; omega
theorem wrap_u8_id {n : Int} (h0 : 0 ≤ n) (h1 : n < 256) : IntKind.u8.wrap n = n := by
 rw [IntKind.wrap_u8]; omega
theorem wrap64_id {n : Int} (h0 : -9223372036854775808 ≤ n) (h1 : n < 9223372036854775808) : wrap64 n = n := by
 unfold wrap64; omega
theorem wrap_i64_eq (n : Int) : IntKind.i64.wrap n = wrap64 n := by
 rw [IntKind.wrap_i64]; rfl

theorem bits_xor (k : IntKind) (x y : Int) : Go.bits .xor k x y = k.wrap ((BitVec.ofInt k.bits x ^^^ BitVec.ofInt k.bits y).toNat : Int) := rfl
theorem u64_xor_zero (x : Int) (h0 : 0 ≤ x) (h1 : x < 18446744073709551616) : Go.bits .xor .u64 x 0 = x := by
 rw [bits_xor]
 have e : BitVec.ofInt IntKind.u64.bits 0 = 0#_ := rfl
 rw [e, BitVec.xor_zero, wrap_u64, BitVec.toNat_ofInt]
 show (((x % ((2 ^ 64 : Nat) : Int)).toNat : Int)) % _ = _
 simp only [Nat.reducePow]
 omega
theorem u64_xor_ones (x : Int) (h0 : 0 ≤ x) (h1 : x < 18446744073709551616) : Go.bits .xor .u64 x 18446744073709551615 = 18446744073709551615 - x := by
 rw [bits_xor]
 have e : BitVec.ofInt 64 18446744073709551615 = BitVec.allOnes 64 := by decide
 show IntKind.u64.wrap (((BitVec.ofInt 64 x) ^^^ BitVec.ofInt 64 18446744073709551615).toNat : Int) = _
 rw [e]
 rw [BitVec.xor_allOnes, BitVec.toNat_not, wrap_u64, BitVec.toNat_ofInt]
 simp only [Nat.reducePow]
 omega
theorem i64_xor_zero (x : Int) (h0 : -9223372036854775808 ≤ x) (h1 : x < 9223372036854775808) : Go.bits .xor .i64 x 0 = x := by
 rw [bits_xor]
 have e : BitVec.ofInt IntKind.i64.bits 0 = 0#_ := rfl
 rw [e, BitVec.xor_zero, IntKind.wrap_i64, BitVec.toNat_ofInt]
 show (((x % ((2 ^ 64 : Nat) : Int)).toNat : Int) + _) % _ - _ = _
 simp only [Nat.reducePow]
 omega
theorem i64_xor_ones (x : Int) (h0 : -9223372036854775808 ≤ x) (h1 : x < 9223372036854775808) : Go.bits .xor .i64 x (-1) = -x - 1 := by
 rw [bits_xor]
 have e : BitVec.ofInt 64 (-1) = BitVec.allOnes 64 := by decide
 show IntKind.i64.wrap (((BitVec.ofInt 64 x) ^^^ BitVec.ofInt 64 (-1)).toNat : Int) = _
 rw [e]
 rw [BitVec.xor_allOnes, BitVec.toNat_not, IntKind.wrap_i64, BitVec.toNat_ofInt]
 simp only [Nat.reducePow]
 omega
theorem u64_and1 (x : Int) (h0 : 0 ≤ x) (h1 : x < 18446744073709551616) : Go.bits .and .u64 x 1 = x % 2 := by
 have := bits_mask .u64 64 (by decide) wraps_u64 1 (by decide) x h0 (by simpa using h1)
 simpa using this
theorem u64_mask (i : Nat) (hi : i ≤ 64) (x : Int) (h0 : 0 ≤ x) (h1 : x < 18446744073709551616) : Go.bits .and .u64 x (2 ^ i - 1) = x % 2 ^ i :=
 bits_mask .u64 64 (by decide) wraps_u64 i hi x h0 (by simpa using h1)
theorem u64_join (i : Nat) (x y : Int) (hx0 : 0 ≤ x) (hx : x % 2 ^ i = 0) (hx1 : x < 18446744073709551616) (hy0 : 0 ≤ y) (hy : y < 2 ^ i) (hy1 : y < 18446744073709551616) : Go.bits .or .u64 x y = x + y :=
 bits_join .u64 64 (by decide) wraps_u64 i x y hx0 hx (by simpa using hx1) hy0 hy (by simpa using hy1)
theorem bits_or_comm (k : IntKind) (x y : Int) : Go.bits .or k x y = Go.bits .or k y x := by
 show k.wrap _ = k.wrap _
 rw [BitVec.or_comm]
theorem u8_join (i : Nat) (x y : Int) (hx0 : 0 ≤ x) (hx : x % 2 ^ i = 0) (hx1 : x < 256) (hy0 : 0 ≤ y) (hy : y < 2 ^ i) (hy1 : y < 256) : Go.bits .or .u8 x y = x + y :=
 bits_join .u8 8 (by decide) wraps_u8 i x y hx0 hx (by simpa using hx1) hy0 hy (by simpa using hy1)
theorem u8_or_high (x : Int) (h0 : 0 ≤ x) (h1 : x < 256) : Go.bits .or .u8 x 128 = x % 128 + 128 := by
 obtain ⟨a, rfl⟩ := Int.eq_ofNat_of_zero_le h0
 have ha : a < 256 := by omega
 have h := (bits_nat .u8 8 (by decide) wraps_u8 a 128 (by simpa using ha) (by decide)).2
 have e : ∀ b : Fin 256, ((b : Nat) ||| 128) = (b : Nat) % 128 + 128 := by decide +kernel
 have := e ⟨a, ha⟩
 simp only at this
 rw [this] at h
 simpa using h
theorem u8_andNot_high (x : Int) (h0 : 0 ≤ x) (h1 : x < 256) : Go.bits .andNot .u8 x 128 = x % 128 := by
 obtain ⟨a, rfl⟩ := Int.eq_ofNat_of_zero_le h0
 have ha : a < 256 := by omega
 have e : ∀ b : Fin 256, Go.bits .andNot .u8 ((b : Nat) : Int) 128 = ((b : Nat) : Int) % 128 := by decide +kernel
 exact e ⟨a, ha⟩

theorem wf_i64 {n : Int} (h : (Lit.int .i64 n).wf = true) : -9223372036854775808 ≤ n ∧ n ≤ 9223372036854775807 := by
 simp only [Lit.wf, Bool.and_eq_true, decide_eq_true_eq] at h
 simp [IntKind.min, IntKind.max, IntKind.signed, IntKind.bits] at h
 exact h
theorem wf_u64 {n : Int} (h : (Lit.int .u64 n).wf = true) : 0 ≤ n ∧ n ≤ 18446744073709551615 := by
 simp only [Lit.wf, Bool.and_eq_true, decide_eq_true_eq] at h
 simp [IntKind.min, IntKind.max, IntKind.signed, IntKind.bits] at h
 exact h
theorem wf_u8 {n : Int} (h : (Lit.int .u8 n).wf = true) : 0 ≤ n ∧ n ≤ 255 := by
 simp only [Lit.wf, Bool.and_eq_true, decide_eq_true_eq] at h
 simp [IntKind.min, IntKind.max, IntKind.signed, IntKind.bits] at h
 exact h
theorem wf_u16 {n : Int} (h : (Lit.int .u16 n).wf = true) : 0 ≤ n ∧ n ≤ 65535 := by
 simp only [Lit.wf, Bool.and_eq_true, decide_eq_true_eq] at h
 simp [IntKind.min, IntKind.max, IntKind.signed, IntKind.bits] at h
 exact h
theorem wf_i8 {n : Int} (h : (Lit.int .i8 n).wf = true) : -128 ≤ n ∧ n ≤ 127 := by
 simp only [Lit.wf, Bool.and_eq_true, decide_eq_true_eq] at h
 simp [IntKind.min, IntKind.max, IntKind.signed, IntKind.bits] at h
 exact h

theorem str_toList (xs : List Int) : (strOfNums xs).toList = xs.map fun n => UInt8.ofNat n.toNat := by
 rw [ByteArray.toList_eq]; rfl
theorem str_inj {xs ys : List Int} (hx : ∀ c ∈ xs, 0 ≤ c ∧ c < 256) (hy : ∀ c ∈ ys, 0 ≤ c ∧ c < 256) (h : (strOfNums xs).toList = (strOfNums ys).toList) : xs = ys := by
 rw [str_toList, str_toList] at h
 induction xs generalizing ys with
 | nil => cases ys with
   | nil => rfl
   | cons y ys => simp at h
 | cons x xs ih =>
   cases ys with
   | nil => simp at h
   | cons y ys =>
     simp only [List.map_cons, List.cons.injEq] at h
     have h1 := hx x (by simp)
     have h2 := hy y (by simp)
     have e : x = y := by
       have := congrArg UInt8.toNat h.1
       simp only [UInt8.toNat_ofNat'] at this
       omega
     rw [e, ih (fun c hc => hx c (by simp [hc])) (fun c hc => hy c (by simp [hc])) h.2]

end Bits
end Go.Proofs.YtbjeejimedhniaaGreatDoor
