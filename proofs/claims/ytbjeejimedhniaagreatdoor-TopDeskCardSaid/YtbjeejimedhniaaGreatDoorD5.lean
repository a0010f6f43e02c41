/- Contracts of the program's functions, as the walks of the law use them. -/
import Derived.Test.YtbjeejimedhniaaGreatDoorD4
set_option linter.unusedVariables false
set_option linter.unusedSimpArgs false
set_option maxRecDepth 100000
set_option maxHeartbeats 200000
namespace Go.Proofs.YtbjeejimedhniaaGreatDoor
namespace Num
open Go.RowKit Bits

/-! ### Zig, Zag -/
def zig (n : Int) : Int := if 0 ≤ n then 2 * n else -2 * n - 1
def zag (u : Int) : Int := if u % 2 = 0 then u / 2 else -(u / 2) - 1
theorem zig_eq (n : Int) (h0 : -9223372036854775808 ≤ n) (h1 : n ≤ 9223372036854775807) :
   Go.bits .xor .u64 (IntKind.u64.wrap ((IntKind.u64.wrap n) * 2)) (IntKind.u64.wrap (n / 9223372036854775808)) = zig n := by
 unfold zig
 by_cases h : 0 ≤ n
 · rw [if_pos h]
   have e : n / 9223372036854775808 = 0 := by omega
   rw [e, wrap_u64_id (n := 0) (by omega) (by omega), wrap_u64_id (n := n) (by omega) (by omega), wrap_u64_id (by omega) (by omega), u64_xor_zero _ (by omega) (by omega)]
   omega
 · rw [if_neg h]
   have e : n / 9223372036854775808 = -1 := by omega
   have e1 : IntKind.u64.wrap (-1) = 18446744073709551615 := by rw [wrap_u64]; rfl
   have e2 : IntKind.u64.wrap ((IntKind.u64.wrap n) * 2) = 2 * n + 18446744073709551616 := by rw [wrap_u64, wrap_u64]; omega
   rw [e, e1, e2, u64_xor_ones _ (by omega) (by omega)]
   omega
theorem zag_eq (u : Int) (h0 : 0 ≤ u) (h1 : u ≤ 18446744073709551615) :
   Go.bits .xor .i64 (wrap64 (u / 2)) (wrap64 (-(wrap64 (Go.bits .and .u64 u 1)))) = zag u := by
 unfold zag
 rw [u64_and1 u h0 (by omega), wrap64_id (n := u % 2) (by omega) (by omega), wrap64_id (n := -(u % 2)) (by omega) (by omega), wrap64_id (by omega) (by omega)]
 by_cases h : u % 2 = 0
 · rw [if_pos h, h]
   exact i64_xor_zero _ (by omega) (by omega)
 · rw [if_neg h]
   have e : u % 2 = 1 := by omega
   rw [e]
   exact i64_xor_ones _ (by omega) (by omega)
theorem zig_range (n : Int) (h0 : -9223372036854775808 ≤ n) (h1 : n ≤ 9223372036854775807) : 0 ≤ zig n ∧ zig n ≤ 18446744073709551615 := by
 unfold zig; split <;> omega
theorem zag_range (u : Int) (h0 : 0 ≤ u) (h1 : u ≤ 18446744073709551615) : -9223372036854775808 ≤ zag u ∧ zag u ≤ 9223372036854775807 := by
 unfold zag; split <;> omega
theorem zag_zig (n : Int) : zag (zig n) = n := by
 unfold zig zag
 split <;> split <;> omega
theorem zig_zag (u : Int) (h0 : 0 ≤ u) : zig (zag u) = u := by
 unfold zig zag
 split <;> split <;> omega

/-! ### PutVar -/
def pv (x : Nat) : List Int := if h : x < 128 then [(x : Int)] else ((x % 128 + 128 : Nat) : Int) :: pv (x / 128)
termination_by x
decreasing_by omega
theorem pv_small {x : Nat} (h : x < 128) : pv x = [(x : Int)] := by rw [pv, dif_pos h]
theorem pv_big {x : Nat} (h : 128 ≤ x) : pv x = ((x % 128 + 128 : Nat) : Int) :: pv (x / 128) := by rw [pv, dif_neg (by omega)]
theorem putvar_loop {l0 : Nat → Int → List Int → Option (List Int)}
   (hl : ∀ k x acc, l0 (k + 1) x acc = if x ≥ 128 then (if acc.length < 140737488355328 then (l0 k (x / 128) (acc ++ [Go.bits .or .u8 ((x) % 256) 128])) else (none)) else (if acc.length < 140737488355328 then (some (acc ++ [(x) % 256])) else (none)))
   (d : Nat) : ∀ (x : Nat) (k : Nat) (acc : List Int), x < 128 ^ (d + 1) → d < k → acc.length + d < 140737488355328 → l0 k x acc = some (acc ++ pv x) := by
 induction d with
 | zero =>
   intro x k acc hx hk ha
   obtain ⟨k, rfl⟩ : ∃ m, k = m + 1 := ⟨k - 1, by omega⟩
   rw [hl, if_neg (by omega), if_pos (by omega), pv_small (by omega)]
   congr 3
   omega
 | succ d ih =>
   intro x k acc hx hk ha
   obtain ⟨k, rfl⟩ : ∃ m, k = m + 1 := ⟨k - 1, by omega⟩
   rw [hl]
   by_cases h : x < 128
   · rw [if_neg (by omega), if_pos (by omega), pv_small h]
     congr 3
     omega
   · rw [if_pos (by omega), if_pos (by omega), pv_big (by omega)]
     have e1 : ((x : Int) / 128) = ((x / 128 : Nat) : Int) := by omega
     have e2 : Go.bits .or .u8 ((x : Int) % 256) 128 = ((x % 128 + 128 : Nat) : Int) := by
       rw [u8_or_high _ (by omega) (by omega)]; omega
     rw [e1, e2, ih (x / 128) k _ (by rw [Nat.pow_succ] at hx; omega) (by omega) (by simp; omega)]
     simp
theorem pv_len (d : Nat) : ∀ x : Nat, x < 128 ^ (d + 1) → (d = 0 ∨ 128 ^ d ≤ x) → (pv x).length = d + 1 := by
 induction d with
 | zero => intro x hx _; rw [pv_small (by omega)]; rfl
 | succ d ih =>
   intro x hx hd
   have hd' : 128 ^ (d + 1) ≤ x := by omega
   have h1 : 0 < 128 ^ d := Nat.pow_pos (by decide)
   rw [Nat.pow_succ] at hd'
   rw [pv_big (by omega), List.length_cons, ih (x / 128) (by rw [Nat.pow_succ] at hx; omega) (by right; omega)]
theorem pv_pos (x : Nat) : 1 ≤ (pv x).length := by
 by_cases h : x < 128
 · rw [pv_small h]; simp
 · rw [pv_big (by omega)]; simp
theorem pv_le (d : Nat) : ∀ x : Nat, x < 128 ^ (d + 1) → (pv x).length ≤ d + 1 := by
 induction d with
 | zero => intro x hx; rw [pv_small (by omega)]; simp
 | succ d ih =>
   intro x hx
   by_cases h : x < 128
   · rw [pv_small h]; simp
   · rw [pv_big (by omega), List.length_cons]
     have := ih (x / 128) (by rw [Nat.pow_succ] at hx; omega)
     omega
theorem pv_le10 (x : Nat) (h : x < 18446744073709551616) : (pv x).length ≤ 10 := pv_le 9 x (by omega)
theorem pv_bytes (x : Nat) : ∀ c ∈ pv x, 0 ≤ c ∧ c < 256 := by
 induction x using pv.induct with
 | case1 x h => rw [pv_small h]; intro c hc; simp at hc; omega
 | case2 x h ih =>
   rw [pv_big (by omega)]
   intro c hc
   simp only [List.mem_cons] at hc
   rcases hc with rfl | hc
   · omega
   · exact ih c hc

end Num
end Go.Proofs.YtbjeejimedhniaaGreatDoor
