/- Contracts of the program's functions, as the walks of the law use them. -/
import Derived.Test.YtbjeejimedhniaaGreatDoorD5
import Derived.Lib.BitFns
set_option linter.unusedVariables false
set_option linter.unusedSimpArgs false
set_option maxRecDepth 100000
set_option maxHeartbeats 200000
namespace Go.Proofs.YtbjeejimedhniaaGreatDoor
namespace NV
open Go.RowKit Bits Num
def shl (k : IntKind) (x y : Int) : Int := k.wrap (x * 2 ^ min y.toNat k.bits)
def Bytes (l : List Int) : Prop := ∀ c ∈ l, 0 ≤ c ∧ c < 256
theorem Bytes.tail {c : Int} {l : List Int} (h : Bytes (c :: l)) : Bytes l := fun d hd => h d (List.mem_cons_of_mem _ hd)
theorem Bytes.head {c : Int} {l : List Int} (h : Bytes (c :: l)) : 0 ≤ c ∧ c < 256 := h c List.mem_cons_self
theorem Bytes.drop {l : List Int} (h : Bytes l) (n : Nat) : Bytes (l.drop n) := fun c hc => h c (List.mem_of_mem_drop hc)
theorem Bytes.take {l : List Int} (h : Bytes l) (n : Nat) : Bytes (l.take n) := fun c hc => h c (List.mem_of_mem_take hc)
theorem Bytes.append {a b : List Int} (h : Bytes a) (k : Bytes b) : Bytes (a ++ b) := fun c hc => (List.mem_append.1 hc).elim (h c) (k c)
theorem pv_Bytes (x : Nat) : Bytes (pv x) := pv_bytes x

theorem bitLen_fin : ∀ p : Fin 128, (p : Nat) < 2 ^ Lib.bitLen p ∧ (1 ≤ (p : Nat) → 2 ^ Lib.bitLen p ≤ 2 * (p : Nat)) ∧ ((p : Nat) = 0 → Lib.bitLen p = 0) ∧ Lib.bitLen p ≤ 7 := by decide +kernel
theorem fit1 (p i : Nat) (hp : p < 128) (h : 7 * i + Lib.bitLen p ≤ 64) : p * 128 ^ i < 18446744073709551616 := by
 have h1 := (bitLen_fin ⟨p, hp⟩).1
 simp only at h1
 have h2 : p * 128 ^ i < 2 ^ Lib.bitLen p * 128 ^ i := Nat.mul_lt_mul_of_pos_right h1 (Nat.pow_pos (by decide))
 have h3 : 2 ^ Lib.bitLen p * 128 ^ i = 2 ^ (Lib.bitLen p + 7 * i) := by rw [show (128 : Nat) = 2 ^ 7 from rfl, ← Nat.pow_mul, ← Nat.pow_add]
 have h4 : 2 ^ (Lib.bitLen p + 7 * i) ≤ 2 ^ 64 := Nat.pow_le_pow_right (by decide) (by omega)
 omega
theorem fit2 (p i : Nat) (hp : p < 128) (h : 64 < 7 * i + Lib.bitLen p) (h1 : 1 ≤ p) : 18446744073709551616 ≤ p * 128 ^ i := by
 have h2 := (bitLen_fin ⟨p, hp⟩).2.1 h1
 simp only at h2
 have h3 : 2 ^ Lib.bitLen p * 128 ^ i ≤ 2 * p * 128 ^ i := Nat.mul_le_mul_right _ h2
 have h4 : 2 ^ Lib.bitLen p * 128 ^ i = 2 ^ (Lib.bitLen p + 7 * i) := by rw [show (128 : Nat) = 2 ^ 7 from rfl, ← Nat.pow_mul, ← Nat.pow_add]
 have h5 : 2 ^ 65 ≤ 2 ^ (Lib.bitLen p + 7 * i) := Nat.pow_le_pow_right (by decide) (by omega)
 rw [Nat.mul_assoc] at h3
 omega
theorem pow128 (i : Nat) (h : 10 ≤ i) : 18446744073709551616 ≤ 128 ^ i := by
 have : (128 : Nat) ^ 10 ≤ 128 ^ i := Nat.pow_le_pow_right (by decide) h
 omega
theorem bitLen0 : Lib.bitLen 0 = 0 := (bitLen_fin ⟨0, by decide⟩).2.2.1 rfl

theorem or_shl (acc p i : Nat) (hp : p < 128) (hacc : acc < 128 ^ i) (hfit : 7 * i + Lib.bitLen p ≤ 64) :
   Go.bits .or .u64 (acc : Int) (shl .u64 (p : Int) ((7 * i : Nat) : Int)) = ((acc + p * 128 ^ i : Nat) : Int) := by
 have hp64 := fit1 p i hp hfit
 have hpow : (128 : Nat) ^ i = 2 ^ (7 * i) := by rw [show (128 : Nat) = 2 ^ 7 from rfl, ← Nat.pow_mul]
 have hle64 : 7 * i ≤ 64 := by omega
 rw [hpow] at hacc hp64 ⊢
 have h2 : (2 : Nat) ^ (7 * i) ≤ 2 ^ 64 := Nat.pow_le_pow_right (by decide) hle64
 have hacc64 : acc < 18446744073709551616 := by omega
 have eshl : shl .u64 (p : Int) ((7 * i : Nat) : Int) = ((p * 2 ^ (7 * i) : Nat) : Int) := by
   unfold shl
   rw [Int.toNat_natCast, show min (7 * i) IntKind.u64.bits = 7 * i from Nat.min_eq_left hle64]
   have h1 : (p : Int) * 2 ^ (7 * i) = ((p * 2 ^ (7 * i) : Nat) : Int) := by simp
   rw [h1]
   exact wrap_u64_id (Int.natCast_nonneg _) (by omega)
 rw [eshl, bits_or_comm]
 generalize hq : p * 2 ^ (7 * i) = q at *
 rw [u64_join (7 * i) (q : Int) (acc : Int) (Int.natCast_nonneg _) ?_ (by omega) (Int.natCast_nonneg _) ?_ (by omega)]
 · rw [Int.natCast_add, Int.add_comm]
 · rw [← hq]
   have : ((p * 2 ^ (7 * i) : Nat) : Int) = (p : Int) * 2 ^ (7 * i) := by simp
   rw [this, Int.mul_emod_left]
 · have h3 : ((2 : Int) ^ (7 * i)) = ((2 ^ (7 * i) : Nat) : Int) := by simp
   rw [h3]
   exact Int.ofNat_lt.2 hacc
theorem next_lt (acc p i : Nat) (hp : p < 128) (hacc : acc < 128 ^ i) : acc + p * 128 ^ i < 128 ^ (i + 1) := by
 have h1 : p * 128 ^ i ≤ 127 * 128 ^ i := Nat.mul_le_mul_right _ (by omega)
 rw [Nat.pow_succ]
 omega

theorem part_eq (c : Int) (p : Nat) (h0 : 0 ≤ c) (h1 : c < 256) (hp : c % 128 = p) : IntKind.u64.wrap (Go.bits .andNot .u8 c 128) = (p : Int) := by
 rw [u8_andNot_high c h0 h1, hp]
 exact wrap_u64_id (by omega) (by omega)
theorem shift_add (i b : Nat) (hi : i ≤ 10) (hb : b ≤ 7) : wrap64 (((7 * i : Nat) : Int) + (b : Int)) = ((7 * i + b : Nat) : Int) := by
 rw [wrap64_id (by omega) (by omega)]; omega
theorem inc_eq (i : Nat) (hi : i < 1000000000000) : wrap64 ((i : Int) + 1) = ((i + 1 : Nat) : Int) := by
 rw [wrap64_id (by omega) (by omega)]; omega
theorem shift7_eq (i : Nat) (hi : i ≤ 10) : wrap64 (((7 * i : Nat) : Int) + 7) = ((7 * (i + 1) : Nat) : Int) := by
 rw [wrap64_id (by omega) (by omega)]; omega

end NV
end Go.Proofs.YtbjeejimedhniaaGreatDoor
