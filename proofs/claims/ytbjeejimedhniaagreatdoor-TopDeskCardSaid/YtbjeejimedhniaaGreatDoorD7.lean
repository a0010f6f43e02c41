/- Contracts of the program's functions, as the walks of the law use them. -/
import Derived.Shelf.Strconv.Itoa0
import Derived.Test.YtbjeejimedhniaaGreatDoorProg
import Derived.Test.YtbjeejimedhniaaGreatDoorD0
import Derived.Test.YtbjeejimedhniaaGreatDoorD6
import Derived.Outline
import Derived.Shelf.Bytes.SlEqualAll
import Derived.Lib.SliceRun
set_option linter.unusedVariables false
set_option linter.unusedSimpArgs false
set_option maxRecDepth 100000
set_option maxHeartbeats 2000000
namespace Go.Proofs
open Go.Shelf
def Tryz.lays129_ren : Go.Shelf.Ren := ⟨fun | 129 => 318 | n => n, fun | 53 => 115 | 3 => 3 | 4 => 4 | 46 => 347 | 5 => 5 | 9 => 9 | n => n, fun | n => n⟩
theorem Tryz.lays129 : Go.Proofs.Lays.n129 Tryz.prog Tryz.lays129_ren := {
  mixed := by kernel_rfl
  f129 := Tryz.func318.trans (congrArg some (by kernel_rfl))
  t3 := Tryz.underlying3
  a3 := Tryz.isAgg3
  z3 := Tryz.sizeOf3
  v3 := Tryz.zeroValue3
  t4 := Tryz.underlying4
  a4 := Tryz.isAgg4
  z4 := Tryz.sizeOf4
  v4 := Tryz.zeroValue4
  t5 := Tryz.underlying5
  a5 := Tryz.isAgg5
  z5 := Tryz.sizeOf5
  v5 := Tryz.zeroValue5
  t9 := Tryz.underlying9
  a9 := Tryz.isAgg9
  z9 := Tryz.sizeOf9
  v9 := Tryz.zeroValue9
  t46 := Tryz.underlying347
  a46 := Tryz.isAgg347
  z46 := Tryz.sizeOf347
  v46 := Tryz.zeroValue347
  t53 := Tryz.underlying115
  a53 := Tryz.isAgg115
  z53 := Tryz.sizeOf115
  v53 := Tryz.zeroValue115 }
theorem Tryz.bits_Len64 (x : Int) (w : World) (h0 : 0 ≤ x) (h1 : x ≤ 18446744073709551615) :
    Calls Tryz.prog 318 #[.int .u64 x] w fun e w' => e = .returned (.int .i64 (Lib.bitLen x.toNat)) ∧ w' = w := Any.bits_Len64 Tryz.lays129 x w h0 h1
end Go.Proofs
namespace Go.Proofs.YtbjeejimedhniaaGreatDoor
namespace K6
open Go Go.RowKit
open KB Bits Num NV
abbrev rdU8 : Rd Int := rdInt .u8
theorem elU8 : El Tryz.prog 120 5 rdU8.sz 1 := El.mk (z := .int .u8 0) Tryz.underlying120 (by kernel_rfl) rfl (by decide)
theorem putVarO (F : Nat → Prop) (x : Nat) (hx : x < 18446744073709551616) (w : World) :
   Calls Tryz.prog 228 #[.int .u64 x] w fun e w' => ∃ v, e = .returned v ∧ rdU8.Own F w.heap.size 5 w' v (pv x) ∧ Ext w w' := by
 go_enter Tryz.func228, Tryz.ntmps228
 go_wp2_with (fail)
 go_loopw [0, 3] (fun y v wr => ∃ (n : Nat) (L : List Int), y = .int .u64 n ∧ n < 18446744073709551616 ∧ As (pv x = L ++ pv n) ∧ rdU8.Own F w.heap.size 5 wr v L ∧ Ext w wr) (fun y _ _ => (intOf y).toNat)
 case atStart => exact ⟨x, [], by go_num, hx, ⟨rfl⟩, Rd.Own.nil _ _ _ _ _, Ext.refl _⟩
 case round =>
   obtain ⟨n, L, rfl, hn, hpv, hown, hE⟩ := hrel
   have hL : L.length ≤ 10 := by
     have h1 := congrArg List.length hpv.out
     have h2 := pv_le10 x hx
     rw [List.length_append] at h1
     omega
   by_cases hlt : 128 ≤ n
   · go_wp2_with (first | (at_builtin; refine wpList_push rfl _ _ _ rfl rdU8 elU8 rfl (hown.ext ((Ext.refl wr).alloc _)) rfl (heap_alloc_new _ _) rfl (by simp; omega) (by simp [maxLen]; omega) (by have := hE.size; simp; omega) (hE.alloc _) ?_; intro v' w1 hown1 hg1 hE1))
     have hb : bits BinOp.or IntKind.u8 ((n : Int) % 256) 128 = ((n % 128 + 128 : Nat) : Int) := by rw [u8_or_high _ (by omega) (by omega)]; omega
     rw [hb] at hown1
     clear hb
     go_roundw
     case rel => exact ⟨n / 128, _, by go_num, by omega, ⟨by rw [hpv.out, pv_big hlt, List.append_assoc]; rfl⟩, hown1, hE1⟩
     case measure => simp [intOf] <;> omega
   · go_wp2_with (first | (at_builtin; refine wpList_push rfl _ _ _ rfl rdU8 elU8 rfl (hown.ext ((Ext.refl wr).alloc _)) rfl (heap_alloc_new _ _) rfl (by simp; omega) (by simp [maxLen]; omega) (by have := hE.size; simp; omega) (hE.alloc _) ?_; intro v' w1 hown1 hg1 hE1))
     have hp : L ++ [(n : Int)] = pv x := by rw [hpv.out, pv_small (by omega)]
     rw [hp] at hown1
     go_ret
     exact ⟨_, rfl, hown1, hE1⟩
theorem putVar (F : Nat → Prop) (x : Nat) (hx : x < 18446744073709551616) (w : World) (hF : ∀ k, F k → k < w.heap.size) :
   Calls Tryz.prog 228 #[.int .u64 x] w fun e w' => ∃ A c, e = .returned (.slice A (pv x).length c) ∧ rdU8.Sl F w' A c (pv x) ∧ Ext w w' :=
 (putVarO F x hx w).mono fun e w' ⟨v, h1, h2, h3⟩ => by
   obtain ⟨A, c, rfl, hs⟩ := h2.shut hF
   exact ⟨A, c, h1, hs, h3⟩
theorem bitLen7 (p : Nat) (hp : p < 128) : Lib.bitLen p ≤ 7 := (bitLen_fin ⟨p, hp⟩).2.2.2
theorem bitFit (p k X : Nat) (hp : p < 128) (hk : k ≤ 9) (hX : X < 18446744073709551616) (h : p * 128 ^ k ≤ X) : 7 * k + Lib.bitLen p ≤ 64 := by
 rcases Nat.eq_zero_or_pos p with rfl | h0
 · rw [bitLen0]; omega
 · rcases Nat.lt_or_ge 64 (7 * k + Lib.bitLen p) with hc | hc
   · have := fit2 p k hp hc h0; omega
   · exact hc
theorem drop_head {l r : List Int} {k : Nat} {y : Int} (h : l.drop k = y :: r) : ∃ hk : k < l.length, l[k] = y ∧ l.drop (k + 1) = r := by
 have hk : k < l.length := by
   rcases Nat.lt_or_ge k l.length with h1 | h1
   · exact h1
   · rw [List.drop_of_length_le h1] at h; cases h
 rw [List.drop_eq_getElem_cons hk] at h
 injection h with h1 h2
 exact ⟨hk, h1, h2⟩
theorem wrapU (n : Nat) (h : n < 18446744073709551616) : IntKind.u64.wrap (n : Int) = n := wrap_u64_id (by omega) (by omega)
theorem andNot_u8 (n : Nat) (h : n < 256) : bits .andNot .u8 (n : Int) 128 = ((n % 128 : Nat) : Int) := by rw [u8_andNot_high _ (by omega) (by omega)]; omega
theorem or_mul (acc p i : Nat) (hp : p < 128) (hacc : acc < 128 ^ i) (hfit : 7 * i + Lib.bitLen p ≤ 64) (h64 : 7 * i ≤ 64) :
   bits .or .u64 (acc : Int) (IntKind.u64.wrap ((p : Int) * 2 ^ (7 * i))) = ((acc + p * 128 ^ i : Nat) : Int) := by
 have h := or_shl acc p i hp hacc hfit
 unfold shl at h
 rw [Int.toNat_natCast, show min (7 * i) IntKind.u64.bits = 7 * i from Nat.min_eq_left h64] at h
 exact h
theorem varC (F : Nat → Prop) (A : Option Addr) (c : Nat) (x : Nat) (r l : List Int) (hlr : l = pv x ++ r) (w : World) (hx : x < 18446744073709551616) (hA : rdU8.Sl F w A c l) (hn : l.length ≤ 100000000) :
   Calls Tryz.prog 256 #[.slice A l.length c] w fun e w' => e = .returned (.tuple #[.int .u64 x, .int .i64 (pv x).length]) ∧ Ext w w' := by
 have HL := As.mk hlr
 clear hlr
 go_enter Tryz.func256, Tryz.ntmps256
 go_wp2_with (fail)
 go_loopw [4, 5, 11] (fun acc sh i wr => ∃ (k z : Nat) (a : Nat), i = .int .i64 k ∧ sh = .int .i64 ((7 * k : Nat) : Int) ∧ acc = .int .u64 a ∧ As (l.drop k = pv z ++ r) ∧ k ≤ 9 ∧ As (x = a + z * 128 ^ k) ∧ a < 128 ^ k ∧ (1 ≤ z ∨ k = 0) ∧ As ((pv x).length = k + (pv z).length) ∧ Ext w wr) (fun _ _ i _ => l.length - (intOf i).toNat)
 case atStart => exact ⟨0, x, 0, by go_num, by go_num, by go_num, ⟨by rw [HL.out]; rfl⟩, by omega, ⟨by simp⟩, by simp, .inr rfl, ⟨by simp⟩, Ext.refl _⟩
 case round =>
   obtain ⟨k, z, a, rfl, rfl, rfl, hd, hk9, hx0, ha, hz1, hpl, hE⟩ := hrel
   by_cases hz : z < 128
   · have hd1 := hd.out
     rw [pv_small hz] at hd1
     obtain ⟨hkl, hlk, hdr⟩ := drop_head hd1
     obtain ⟨b, o, rfl, hc⟩ := int_get (hA.ext hE) hkl
     rw [hlk] at hc
     have hfit := bitFit z k x hz hk9 hx (by rw [hx0.out]; omega)
     have hb7 := bitLen7 z hz
     have hw1 := wrapU z (by omega)
     have han := andNot_u8 z (by omega)
     rw [Nat.mod_eq_of_lt hz] at han
     have hlt : decide ((64 : Int) < ((7 * k : Nat) : Int) + (Lib.bitLen z : Int)) = false := decide_eq_false (by omega)
     go_wp2_with (fail)
     refine (Tryz.bits_Len64 (z : Int) _ (by omega) (by omega)).mono ?_; rintro e w1 ⟨rfl, rfl⟩
     rw [Int.toNat_natCast]
     have hor := or_mul a z k hz ha hfit (by omega)
     have HX := hx0.out
     rw [← HX] at hor
     have HO := As.mk hor
     have HX' := As.mk HX
     have hl1 : (pv x).length = k + 1 := by rw [hpl.out, pv_small hz]; rfl
     have HL1 := As.mk hl1
     clear hor HX hl1 hc hlk hd1 hdr
     rcases Nat.eq_zero_or_pos z with h0 | h0
     · subst h0
       obtain rfl : k = 0 := by omega
       obtain rfl : a = 0 := by simpa using ha
       go_wp2
       go_ret2
       exact ⟨by rw [HL1.out, HX'.out]; rfl, hE⟩
     · have hz0 : ((z : Int) == 0) = false := by simp; omega
       go_wp2
       go_ret2
       exact ⟨by show Ending.returned (.tuple #[.int .u64 _, .int .i64 _]) = _; rw [HO.out, HL1.out]; rfl, hE⟩
   · have hd1 := hd.out
     rw [pv_big (by omega)] at hd1
     obtain ⟨hkl, hlk, hdr⟩ := drop_head hd1
     obtain ⟨b, o, rfl, hc⟩ := int_get (hA.ext hE) hkl
     rw [hlk] at hc
     have hzz : z = z % 128 + 128 * (z / 128) := by omega
     have hx1 := hx0.out
     have hpow : z * 128 ^ k = z % 128 * 128 ^ k + z / 128 * 128 ^ (k + 1) := by
       rw [Nat.pow_succ, show z / 128 * (128 ^ k * 128) = 128 * (z / 128) * 128 ^ k by ac_rfl, ← Nat.add_mul, ← hzz]
     have hfit := bitFit (z % 128) k x (by omega) hk9 hx (by omega)
     have hk8 : k ≤ 8 := by
       rcases Nat.lt_or_ge 8 k with h | h
       · obtain rfl : k = 9 := by omega
         have h1 : 1 * 128 ^ (9 + 1) ≤ z / 128 * 128 ^ (9 + 1) := Nat.mul_le_mul_right _ (by omega)
         omega
       · exact h
     have hor := or_mul a (z % 128) k (by omega) ha hfit (by omega)
     have hnx := next_lt a (z % 128) k (by omega) ha
     have hb7 := bitLen7 (z % 128) (by omega)
     have hlen : (pv x).length = (k + 1) + (pv (z / 128)).length := by rw [hpl.out, pv_big (by omega), List.length_cons]; omega
     have HLEN := As.mk hlen
     have HDR := As.mk hdr
     have hxe : x = (a + z % 128 * 128 ^ k) + z / 128 * 128 ^ (k + 1) := by omega
     have HXE := As.mk hxe
     have hq1 : 1 ≤ z / 128 := by omega
     generalize a + z % 128 * 128 ^ k = a' at *
     clear hlen hxe hx1 hpow hzz hlk hd1 hdr
     have hp := Nat.mod_lt z (show 0 < 128 by decide)
     generalize z / 128 = q at *
     generalize z % 128 = p at *
     have hw1 := wrapU p (by omega)
     have han : bits .andNot .u8 ((p : Int) + 128) 128 = (p : Int) := by rw [u8_andNot_high _ (by omega) (by omega)]; omega
     have hge : ¬ ((p : Int) + 128 < 128) := by omega
     have hgd : decide ((p : Int) + 128 < 128) = false := decide_eq_false hge
     have hlt : decide ((64 : Int) < ((7 * k : Nat) : Int) + (Lib.bitLen p : Int)) = false := decide_eq_false (by omega)
     have HOR := As.mk hor
     clear hor
     go_wp2_with (fail)
     refine (Tryz.bits_Len64 (p : Int) _ (by omega) (by omega)).mono ?_; rintro e w1 ⟨rfl, rfl⟩
     rw [Int.toNat_natCast]
     clear hc
     go_wp2
     go_roundw
     case rel => exact ⟨k + 1, q, a', by go_num, by go_num, congrArg (Value.int .u64) HOR.out, HDR, by omega, HXE, hnx, .inl hq1, HLEN, hE⟩
     case measure => simp [intOf] <;> omega
theorem zigC (n : Int) (h0 : -9223372036854775808 ≤ n) (h1 : n ≤ 9223372036854775807) (w : World) :
   Calls Tryz.prog 346 #[.int .i64 n] w fun e w' => e = .returned (.int .u64 (zig n)) ∧ w = w' := by
 have hz := zig_eq n h0 h1
 go_enter Tryz.func346, Tryz.ntmps346
 go_wp2
 go_ret
 exact ⟨by show Ending.returned (.int .u64 _) = _; rw [← hz], rfl⟩
theorem zagC (u : Int) (h0 : 0 ≤ u) (h1 : u ≤ 18446744073709551615) (w : World) :
   Calls Tryz.prog 418 #[.int .u64 u] w fun e w' => e = .returned (.int .i64 (zag u)) ∧ w = w' := by
 have hz := zag_eq u h0 h1
 rw [wrap64_id (n := u / 2) (by omega) (by omega)] at hz
 go_enter Tryz.func418, Tryz.ntmps418
 go_wp2
 go_ret
 exact ⟨by show Ending.returned (.int .i64 _) = _; rw [← hz], rfl⟩
def le8 (x : Nat) : List Int := [((x % 256 : Nat) : Int), ((x / 256 % 256 : Nat) : Int), ((x / 65536 % 256 : Nat) : Int), ((x / 16777216 % 256 : Nat) : Int), ((x / 4294967296 % 256 : Nat) : Int), ((x / 1099511627776 % 256 : Nat) : Int), ((x / 281474976710656 % 256 : Nat) : Int), ((x / 72057594037927936 : Nat) : Int)]
theorem put64C (F : Nat → Prop) (x : Nat) (hx : x < 18446744073709551616) (w : World) (hF : ∀ k, F k → k < w.heap.size) :
   Calls Tryz.prog 135 #[.int .u64 x] w fun e w' => ∃ A c, e = .returned (.slice A (le8 x).length c) ∧ rdU8.Sl F w' A c (le8 x) ∧ Ext w w' := by
 go_enter Tryz.func135, Tryz.ntmps135
 go_wp2_with (fail)
 refine wp_loop_rounds 9 ?_
 rw [rounds_succ]
 go_wp2_with (fail)
 rw [rounds_succ]
 go_wp2_with (fail)
 rw [rounds_succ]
 go_wp2_with (fail)
 rw [rounds_succ]
 go_wp2_with (fail)
 rw [rounds_succ]
 go_wp2_with (fail)
 rw [rounds_succ]
 go_wp2_with (fail)
 rw [rounds_succ]
 go_wp2_with (fail)
 rw [rounds_succ]
 go_wp2_with (fail)
 rw [rounds_succ]
 go_wp2_with (fail)
 go_ret
 refine ⟨_, _, rfl, int_lit (F := F) (l := le8 x) (bN _ _) (fun h => absurd (hF _ h) (by omega)) ?_ (by show 8 ≤ maxLen; decide), (Ext.refl w).alloc _⟩
 simp [le8]
theorem le8_get (x : Nat) (hx : x < 18446744073709551616) : ∀ k (h : k < 8), (le8 x)[k]'h = ((x / 256 ^ k % 256 : Nat) : Int) := by
 intro k h
 match k, h with
 | 0, _ => simp [le8]
 | 1, _ => simp [le8]
 | 2, _ => simp [le8]
 | 3, _ => simp [le8]
 | 4, _ => simp [le8]
 | 5, _ => simp [le8]
 | 6, _ => simp [le8]
 | 7, _ => simp [le8]; omega
theorem or_byte (acc p k : Nat) (hp : p < 256) (hacc : acc < 256 ^ k) (hk : k < 8) :
   bits .or .u64 (acc : Int) (IntKind.u64.wrap ((p : Int) * 2 ^ (8 * k))) = ((acc + p * 256 ^ k : Nat) : Int) := by
 have hpow : (256 : Nat) ^ k = 2 ^ (8 * k) := by rw [show (256 : Nat) = 2 ^ 8 from rfl, ← Nat.pow_mul]
 have h56 : 256 ^ k ≤ 256 ^ 7 := Nat.pow_le_pow_right (by decide) (by omega)
 have h1 : p * 256 ^ k ≤ 255 * 256 ^ 7 := Nat.mul_le_mul (by omega) h56
 have h2 : ((p : Int) * 2 ^ (8 * k)) = ((p * 256 ^ k : Nat) : Int) := by rw [hpow]; simp
 rw [h2, wrap_u64_id (by omega) (by omega), bits_or_comm]
 rw [u64_join (8 * k) _ _ (Int.natCast_nonneg _) ?_ (by omega) (Int.natCast_nonneg _) ?_ (by omega)]
 · omega
 · rw [← h2, Int.mul_emod_left]
 · have h3 : ((2 : Int) ^ (8 * k)) = ((2 ^ (8 * k) : Nat) : Int) := by simp
   rw [h3, ← hpow]
   exact Int.ofNat_lt.2 hacc
theorem get64C (F : Nat → Prop) (A : Option Addr) (c : Nat) (x : Nat) (r l : List Int) (hlr : l = le8 x ++ r) (w : World) (hx : x < 18446744073709551616) (hA : rdU8.Sl F w A c l) (hn : l.length ≤ 100000000) :
   Calls Tryz.prog 160 #[.slice A l.length c] w fun e w' => e = .returned (.tuple #[.int .u64 x, .bool true]) ∧ Ext w w' := by
 have hl8 : 8 ≤ l.length := by rw [hlr, List.length_append]; show 8 ≤ 8 + _; omega
 have hlt : decide ((l.length : Int) < 8) = false := decide_eq_false (by omega)
 have hle := hA.le
 have HL := As.mk hlr
 clear hlr
 go_enter Tryz.func160, Tryz.ntmps160
 go_wp2_with (fail)
 go_loopw [4, 5, 6, 13] (fun acc _ _ i wr => ∃ k : Nat, i = .int .i64 k ∧ k ≤ 8 ∧ acc = .int .u64 ((x % 256 ^ k : Nat) : Int) ∧ Ext w wr) (fun _ _ _ i _ => 8 - (intOf i).toNat)
 case atStart => exact ⟨0, by go_num, by omega, by simp [Nat.mod_one], Ext.refl _⟩
 case round =>
   obtain ⟨k, rfl, hk8, rfl, hE⟩ := hrel
   by_cases hlt : k < 8
   · obtain ⟨b, o, rfl, hc⟩ := int_get (hA.ext hE) (k := k) (by omega)
     have hlk : l[k]'(by omega) = ((x / 256 ^ k % 256 : Nat) : Int) := by
       rw [← le8_get x hx k hlt]
       simp only [HL.out]
       exact List.getElem_append_left _
     rw [hlk] at hc
     have hp := Nat.mod_lt (x / 256 ^ k) (show 0 < 256 by decide)
     have hm := Nat.mod_lt x (show 0 < 256 ^ k from Nat.pow_pos (by decide))
     have hor := or_byte (x % 256 ^ k) (x / 256 ^ k % 256) k hp hm hlt
     have hst : x % 256 ^ k + x / 256 ^ k % 256 * 256 ^ k = x % 256 ^ (k + 1) := by rw [Nat.mod_pow_succ, Nat.mul_comm]
     rw [hst] at hor
     have HOR := As.mk hor
     clear hor hst hlk
     generalize x % 256 ^ k = a at *
     generalize x / 256 ^ k % 256 = p at *
     have hw1 := wrapU p (by omega)
     go_wp2
     go_roundw
     case rel => exact ⟨k + 1, by go_num, by omega, congrArg (Value.int .u64) HOR.out, hE⟩
     case measure => simp [intOf] <;> omega
   · obtain rfl : k = 8 := by omega
     have he : x % 256 ^ 8 = x := Nat.mod_eq_of_lt (by omega)
     rw [he]
     go_wp2
     go_ret2
     exact ⟨rfl, hE⟩
end K6
namespace K7
open Go Go.RowKit
open KB Bits Num NV K6
theorem elInt : El Tryz.prog 25 3 (rdInt .i64).sz 8 := El.mk (z := .int .i64 0) Tryz.underlying25 (by kernel_rfl) rfl (by decide)
theorem flat_step {α : Type} (ls : List (List α)) {k : Nat} (h : k < ls.length) : (ls.take (k + 1)).flatten = (ls.take k).flatten ++ ls[k] := by rw [take_snoc _ h, List.flatten_append]; simp
theorem flat_le {α : Type} (ls : List (List α)) (k : Nat) : (ls.take k).flatten.length ≤ ls.flatten.length := by
 have h := congrArg (fun l => l.flatten.length) (List.take_append_drop k ls)
 simp only [List.flatten_append, List.length_append] at h
 omega
theorem Rd.Sl.far {α : Type} {R : Rd α} (hsz : 0 < R.sz) {F : Nat → Prop} {w wr : World} {A : Option Addr} {c : Nat} {l : List α} {v : Value} (h : R.Sl F w A c l) (hE : Ext w wr) (hv : ∀ g, v.ownBlock = some g → w.heap.size ≤ g ∧ g < wr.heap.size) : R.Sl (Fv F v) wr A c l :=
 Rd.Sl.ext (h.narrow hsz (fun k hk hG => hG.elim id (fun hg => absurd (hv k hg).1 (by omega)))) hE
theorem growB (F : Nat → Prop) (n : Nat) (h63 : n ≤ 100000000) (w : World) :
   Calls Tryz.prog 241 #[.slice none 0 0, .int .i64 n] w fun e w' => ∃ v, e = .returned v ∧ (rdInt .u8).Own F w.heap.size 5 w' v [] ∧ Ext w w' := by
 rcases Nat.eq_zero_or_pos n with h0 | h0
 · subst h0
   go_enter Tryz.func241, Tryz.ntmps241
   go_wp2
   go_ret
   exact ⟨_, rfl, Rd.Own.nil _ _ _ _ _, Ext.refl w⟩
 · have h0' : decide ((0 : Int) < (n : Int)) = true := decide_eq_true (by omega)
   go_enter Tryz.func241, Tryz.ntmps241
   go_wp2_with (first | (at_builtin; refine wpList_makeNil rfl _ _ _ _ rfl (rdInt .u8) (F := F) elU8 Tryz.underlying3 rfl rfl h0 h63 (by decide) ?_; intro cap W hge hle hown hE; have hcap : decide (cap = 0) = false := decide_eq_false (by omega)))
   go_ret
   exact ⟨_, rfl, hown, hE⟩
theorem concatBO (F : Nat → Prop) (A : Option Addr) (c : Nat) (ls : List (List Int)) (L : List Int) (hL : ls.flatten = L) (w : World) (hA : (rdSl (rdInt .u8) Nat.one_pos).Sl F w A c ls) (hn : ls.length ≤ 100000) (hs : L.length ≤ 100000000) :
   Calls Tryz.prog 133 #[.slice A ls.length c] w fun e w' => ∃ v, e = .returned v ∧ (rdInt .u8).Own F w.heap.size 5 w' v L ∧ Ext w w' := by
 have HL := As.mk hL
 have HLE := fun k => flat_le ls k
 rw [hL] at HLE
 replace HLE := As.mk HLE
 clear hL
 go_enter Tryz.func133, Tryz.ntmps133
 go_wp2_with (fail)
 go_loopw [3, 5, 11] (fun n _ i wr => ∃ k m : Nat, i = .int .i64 k ∧ k ≤ ls.length ∧ n = .int .i64 m ∧ As (m = (ls.take k).flatten.length) ∧ Ext w wr) (fun _ _ i _ => ls.length - (intOf i).toNat)
 case atStart => exact ⟨0, 0, by go_num, Nat.zero_le _, by go_num, ⟨rfl⟩, Ext.refl _⟩
 case round =>
   obtain ⟨k, m, rfl, hkl, rfl, hm, hE⟩ := hrel
   by_cases hlt : k < ls.length
   · obtain ⟨b, o, A2, c2, rfl, hc, hr⟩ := sl_get (Rd.Sl.ext hA hE) hlt
     have hfl := congrArg List.length (flat_step ls hlt)
     rw [List.length_append, ← hm.out] at hfl
     have hle := HLE.out (k + 1)
     rw [hfl] at hle
     have HF := As.mk hfl
     clear hfl
     go_wp2
     go_roundw
     case rel => exact ⟨k + 1, m + ls[k].length, by go_num, by omega, by go_num, ⟨HF.out.symm⟩, hE⟩
     case measure => simp [intOf] <;> omega
   · obtain rfl : k = ls.length := by omega
     have hm2 := hm.out
     rw [List.take_length, HL.out] at hm2
     subst hm2
     go_wp2_with (fail)
     refine (growB F L.length hs wr).mono ?_; rintro e w1 ⟨v, rfl, ho1, hb1⟩
     have hE1 := hE.trans hb1
     have ho1' := ho1.lower hE.size
     clear ho1 hb1 hE hm
     go_wp2_with (fail)
     go_loopw [6, 8, 27] (fun v _ i wr => ∃ (k : Nat) (M : List Int), i = .int .i64 k ∧ k ≤ ls.length ∧ As (M = (ls.take k).flatten) ∧ (rdInt .u8).Own F w.heap.size 5 wr v M ∧ Ext w wr) (fun _ _ i _ => ls.length - (intOf i).toNat)
     case atStart => exact ⟨0, [], by go_num, Nat.zero_le _, ⟨rfl⟩, ho1', hE1⟩
     case round =>
       clear hE1 ho1'
       obtain ⟨k, M, rfl, hkl, hM, hown, hE⟩ := hrel
       by_cases hlt : k < ls.length
       · obtain ⟨b, o, A2, c2, rfl, hc, hr⟩ := sl_get (Rd.Sl.far Nat.one_pos hA hE hown.ge) hlt
         have hfl := flat_step ls hlt
         rw [← hM.out] at hfl
         have hle := HLE.out (k + 1)
         rw [hfl, List.length_append] at hle
         have HF := As.mk hfl
         clear hfl
         go_wp2_with (first | (at_builtin; refine wpList_app rfl _ _ _ rfl (rdInt .u8) elU8 rfl hown rfl rfl hr (by omega) (by unfold maxLen; omega) hE.size hE ?_; intro v' w1 hown1 hg1 hE1))
         go_roundw
         case rel => exact ⟨k + 1, M ++ ls[k], by go_num, by omega, ⟨HF.out.symm⟩, hown1, hE1⟩
         case measure => simp [intOf] <;> omega
       · obtain rfl : k = ls.length := by omega
         have hM2 := hM.out
         rw [List.take_length, HL.out] at hM2
         subst hM2
         go_wp2
         go_ret
         exact ⟨_, rfl, hown, hE⟩
theorem concatB (F : Nat → Prop) (A : Option Addr) (c : Nat) (ls : List (List Int)) (L : List Int) (hL : ls.flatten = L) (w : World) (hA : (rdSl (rdInt .u8) Nat.one_pos).Sl F w A c ls) (hn : ls.length ≤ 100000) (hs : L.length ≤ 100000000) (hF : ∀ k, F k → k < w.heap.size) :
   Calls Tryz.prog 133 #[.slice A ls.length c] w fun e w' => ∃ A' c', e = .returned (.slice A' L.length c') ∧ (rdInt .u8).Sl F w' A' c' L ∧ Ext w w' :=
 (concatBO F A c ls L hL w hA hn hs).mono fun e w' ⟨v, h1, h2, h3⟩ => by
   obtain ⟨A', c', rfl, hs'⟩ := h2.shut hF
   exact ⟨A', c', h1, hs', h3⟩
theorem growI (F : Nat → Prop) (n : Nat) (h63 : n ≤ 100000000) (w : World) :
   Calls Tryz.prog 255 #[.slice none 0 0, .int .i64 n] w fun e w' => ∃ v, e = .returned v ∧ (rdInt .i64).Own F w.heap.size 3 w' v [] ∧ Ext w w' := by
 rcases Nat.eq_zero_or_pos n with h0 | h0
 · subst h0
   go_enter Tryz.func255, Tryz.ntmps255
   go_wp2
   go_ret
   exact ⟨_, rfl, Rd.Own.nil _ _ _ _ _, Ext.refl w⟩
 · have h0' : decide ((0 : Int) < (n : Int)) = true := decide_eq_true (by omega)
   go_enter Tryz.func255, Tryz.ntmps255
   go_wp2_with (first | (at_builtin; refine wpList_makeNil rfl _ _ _ _ rfl (rdInt .i64) (F := F) elInt Tryz.underlying3 rfl rfl h0 h63 (by decide) ?_; intro cap W hge hle hown hE; have hcap : decide (cap = 0) = false := decide_eq_false (by omega)))
   go_ret
   exact ⟨_, rfl, hown, hE⟩
theorem concatIO (F : Nat → Prop) (A : Option Addr) (c : Nat) (ls : List (List Int)) (L : List Int) (hL : ls.flatten = L) (w : World) (hA : (rdSl (rdInt .i64) Nat.one_pos).Sl F w A c ls) (hn : ls.length ≤ 100000) (hs : L.length ≤ 100000000) :
   Calls Tryz.prog 157 #[.slice A ls.length c] w fun e w' => ∃ v, e = .returned v ∧ (rdInt .i64).Own F w.heap.size 3 w' v L ∧ Ext w w' := by
 have HL := As.mk hL
 have HLE := fun k => flat_le ls k
 rw [hL] at HLE
 replace HLE := As.mk HLE
 clear hL
 go_enter Tryz.func157, Tryz.ntmps157
 go_wp2_with (fail)
 go_loopw [3, 5, 11] (fun n _ i wr => ∃ k m : Nat, i = .int .i64 k ∧ k ≤ ls.length ∧ n = .int .i64 m ∧ As (m = (ls.take k).flatten.length) ∧ Ext w wr) (fun _ _ i _ => ls.length - (intOf i).toNat)
 case atStart => exact ⟨0, 0, by go_num, Nat.zero_le _, by go_num, ⟨rfl⟩, Ext.refl _⟩
 case round =>
   obtain ⟨k, m, rfl, hkl, rfl, hm, hE⟩ := hrel
   by_cases hlt : k < ls.length
   · obtain ⟨b, o, A2, c2, rfl, hc, hr⟩ := sl_get (Rd.Sl.ext hA hE) hlt
     have hfl := congrArg List.length (flat_step ls hlt)
     rw [List.length_append, ← hm.out] at hfl
     have hle := HLE.out (k + 1)
     rw [hfl] at hle
     have HF := As.mk hfl
     clear hfl
     go_wp2
     go_roundw
     case rel => exact ⟨k + 1, m + ls[k].length, by go_num, by omega, by go_num, ⟨HF.out.symm⟩, hE⟩
     case measure => simp [intOf] <;> omega
   · obtain rfl : k = ls.length := by omega
     have hm2 := hm.out
     rw [List.take_length, HL.out] at hm2
     subst hm2
     go_wp2_with (fail)
     refine (growI F L.length hs wr).mono ?_; rintro e w1 ⟨v, rfl, ho1, hb1⟩
     have hE1 := hE.trans hb1
     have ho1' := ho1.lower hE.size
     clear ho1 hb1 hE hm
     go_wp2_with (fail)
     go_loopw [6, 8, 27] (fun v _ i wr => ∃ (k : Nat) (M : List Int), i = .int .i64 k ∧ k ≤ ls.length ∧ As (M = (ls.take k).flatten) ∧ (rdInt .i64).Own F w.heap.size 3 wr v M ∧ Ext w wr) (fun _ _ i _ => ls.length - (intOf i).toNat)
     case atStart => exact ⟨0, [], by go_num, Nat.zero_le _, ⟨rfl⟩, ho1', hE1⟩
     case round =>
       clear hE1 ho1'
       obtain ⟨k, M, rfl, hkl, hM, hown, hE⟩ := hrel
       by_cases hlt : k < ls.length
       · obtain ⟨b, o, A2, c2, rfl, hc, hr⟩ := sl_get (Rd.Sl.far Nat.one_pos hA hE hown.ge) hlt
         have hfl := flat_step ls hlt
         rw [← hM.out] at hfl
         have hle := HLE.out (k + 1)
         rw [hfl, List.length_append] at hle
         have HF := As.mk hfl
         clear hfl
         go_wp2_with (first | (at_builtin; refine wpList_app rfl _ _ _ rfl (rdInt .i64) elInt rfl hown rfl rfl hr (by omega) (by unfold maxLen; omega) hE.size hE ?_; intro v' w1 hown1 hg1 hE1))
         go_roundw
         case rel => exact ⟨k + 1, M ++ ls[k], by go_num, by omega, ⟨HF.out.symm⟩, hown1, hE1⟩
         case measure => simp [intOf] <;> omega
       · obtain rfl : k = ls.length := by omega
         have hM2 := hM.out
         rw [List.take_length, HL.out] at hM2
         subst hM2
         go_wp2
         go_ret
         exact ⟨_, rfl, hown, hE⟩
theorem concatI (F : Nat → Prop) (A : Option Addr) (c : Nat) (ls : List (List Int)) (L : List Int) (hL : ls.flatten = L) (w : World) (hA : (rdSl (rdInt .i64) Nat.one_pos).Sl F w A c ls) (hn : ls.length ≤ 100000) (hs : L.length ≤ 100000000) (hF : ∀ k, F k → k < w.heap.size) :
   Calls Tryz.prog 157 #[.slice A ls.length c] w fun e w' => ∃ A' c', e = .returned (.slice A' L.length c') ∧ (rdInt .i64).Sl F w' A' c' L ∧ Ext w w' :=
 (concatIO F A c ls L hL w hA hn hs).mono fun e w' ⟨v, h1, h2, h3⟩ => by
   obtain ⟨A', c', rfl, hs'⟩ := h2.shut hF
   exact ⟨A', c', h1, hs', h3⟩
end K7
namespace K8
open Go Go.RowKit
open KB Bits Num NV K6 K7
def bitF (r : Int) : Int := bits .xor .u32 (r / 2) (bits .and .u32 3988292384 (-(bits .and .u32 r 1) % 4294967296))
def stepF : Nat → Int → Int
 | 0, r => r
 | n + 1, r => stepF n (bitF r)
def byteF (r c : Int) : Int := bits .xor .u32 (r / 256) (stepF 8 (bits .xor .u8 (r % 256) c % 4294967296))
def sum32 (l : List Int) : Int := bits .xor .u32 IntKind.u32.max (l.foldl byteF 4294967295)
theorem xor_u32 (x y : Int) : 0 ≤ bits .xor .u32 x y ∧ bits .xor .u32 x y < 4294967296 := by
 show 0 ≤ IntKind.u32.wrap _ ∧ IntKind.u32.wrap _ < _
 rw [IntKind.wrap_u32]; omega
theorem stepF_u32 (n : Nat) (r : Int) (h0 : 0 ≤ r) (h1 : r < 4294967296) : 0 ≤ stepF n r ∧ stepF n r < 4294967296 := by
 induction n generalizing r with
 | zero => exact ⟨h0, h1⟩
 | succ n ih => exact ih _ (xor_u32 _ _).1 (xor_u32 _ _).2
theorem sum32_u32 (l : List Int) : 0 ≤ sum32 l ∧ sum32 l < 4294967296 := xor_u32 _ _
theorem stepC (r : Int) (h0 : 0 ≤ r) (h1 : r < 4294967296) (w : World) : Calls Tryz.prog 306 #[.int .u32 r] w fun e w' => e = .returned (.int .u32 (stepF 8 r)) ∧ w = w' := by
 go_enter Tryz.func306, Tryz.ntmps306
 go_wp2_with (fail)
 go_loop [0, 3, 4] (fun v _ i => ∃ (k : Nat) (s : Int), i = .int .i64 k ∧ k ≤ 8 ∧ v = .int .u32 s ∧ 0 ≤ s ∧ s < 4294967296 ∧ As (stepF 8 r = stepF (8 - k) s)) (fun _ _ i => 8 - (intOf i).toNat)
 case atStart => exact ⟨0, r, by go_num, by omega, rfl, h0, h1, ⟨rfl⟩⟩
 case round =>
   obtain ⟨k, s, rfl, hk, rfl, s0, s1, hs⟩ := hrel
   by_cases hlt : k < 8
   · have hst : stepF (8 - k) s = stepF (8 - (k + 1)) (bitF s) := by
       rw [show 8 - k = (8 - (k + 1)) + 1 by omega]; rfl
     have HS := As.mk (hs.out.trans hst)
     clear hst
     go_wp2
     go_round
     case rel => exact ⟨k + 1, bitF s, by go_num, by omega, rfl, (xor_u32 _ _).1, (xor_u32 _ _).2, HS⟩
     case measure => simp [intOf] <;> omega
   · obtain rfl : k = 8 := by omega
     go_wp2
     go_ret
     exact ⟨by rw [hs.out]; rfl, rfl⟩
theorem sumC (F : Nat → Prop) (A : Option Addr) (c : Nat) (l : List Int) (w : World) (hA : rdU8.Sl F w A c l) (hn : l.length ≤ 100000000) : Calls Tryz.prog 230 #[.slice A l.length c] w fun e w' => e = .returned (.int .u32 (sum32 l)) ∧ w = w' := by
 go_enter Tryz.func230, Tryz.ntmps230
 go_wp2_with (fail)
 go_loop [3, 5, 8] (fun v _ i => ∃ (k : Nat) (s : Int), i = .int .i64 k ∧ k ≤ l.length ∧ v = .int .u32 s ∧ 0 ≤ s ∧ s < 4294967296 ∧ As (s = (l.take k).foldl byteF 4294967295)) (fun _ _ i => l.length - (intOf i).toNat)
 case atStart => exact ⟨0, _, by go_num, by omega, rfl, by omega, by omega, ⟨rfl⟩⟩
 case round =>
   obtain ⟨k, s, rfl, hk, rfl, s0, s1, hs⟩ := hrel
   by_cases hlt : k < l.length
   · obtain ⟨b, o, rfl, hc⟩ := int_get hA hlt
     have hst : byteF s l[k] = (l.take (k + 1)).foldl byteF 4294967295 := by rw [take_snoc _ hlt, List.foldl_append, ← hs.out]; rfl
     have HS := As.mk hst
     clear hst
     go_wp2_with (fail)
     refine (stepC (bits .xor .u8 (s % 256) l[k] % 4294967296) (by omega) (by omega) _).mono ?_; rintro e w' ⟨rfl, rfl⟩
     clear hc
     go_wp2
     go_round
     case rel => exact ⟨k + 1, byteF s l[k], by go_num, by omega, rfl, (xor_u32 _ _).1, (xor_u32 _ _).2, HS⟩
     case measure => simp [intOf] <;> omega
   · obtain rfl : k = l.length := by omega
     rw [List.take_length] at hs
     go_wp2
     go_ret
     exact ⟨by rw [sum32, ← hs.out]; rfl, rfl⟩
def le4 (s : Nat) : List Int := (le8 s).take 4
theorem bytesC (F : Nat → Prop) (s : Nat) (hs : s < 4294967296) (w : World) (hF : ∀ k, F k → k < w.heap.size) :
   Calls Tryz.prog 229 #[.int .u32 s] w fun e w' => ∃ A c, e = .returned (.slice A (le4 s).length c) ∧ rdU8.Sl F w' A c (le4 s) ∧ Ext w w' := by
 go_enter Tryz.func229, Tryz.ntmps229
 go_wp2_with (fail)
 refine (put64C F s (by omega) w hF).mono ?_; rintro e w1 ⟨A, c, rfl, hs1, hb⟩
 have h4 := hs1.pre 4
 have hc8 : 8 ≤ c := hs1.le
 have hlen : (le8 s).length = 8 := rfl
 go_wp2_with (fail)
 go_ret
 exact ⟨A, c, rfl, h4, hb⟩
def frame (b : List Int) : List Int := pv b.length ++ (le4 (sum32 b).toNat ++ b)
theorem frameO (F : Nat → Prop) (A : Option Addr) (c : Nat) (b : List Int) (w : World) (hA : rdU8.Sl F w A c b) (hn : b.length ≤ 10000000) (hF : ∀ k, F k → k < w.heap.size) :
   Calls Tryz.prog 128 #[.slice A b.length c] w fun e w' => ∃ v, e = .returned v ∧ rdU8.Own F w.heap.size 5 w' v (frame b) ∧ Ext w w' := by
 have hw1 := wrapU b.length (by omega)
 have hs := sum32_u32 b
 obtain ⟨s, hs'⟩ : ∃ s : Nat, sum32 b = s := ⟨(sum32 b).toNat, by omega⟩
 have hpl := pv_le10 b.length (by omega)
 have hw2 : (s : Int) % 18446744073709551616 = s := by omega
 go_enter Tryz.func128, Tryz.ntmps128
 go_wp2_with (fail)
 refine (putVar F b.length (by omega) w hF).mono ?_; rintro e w1 ⟨A1, c1, rfl, h1, hb1⟩
 go_wp2_with (fail)
 refine (sumC F A c b w1 (hA.ext hb1) (by omega)).mono ?_; rintro e w2 ⟨rfl, rfl⟩
 rw [hs']
 go_wp2_with (fail)
 refine (bytesC F s (by omega) w1 (fun k hk => by have := hF k hk; have := hb1.size; omega)).mono ?_; rintro e w2 ⟨A2, c2, rfl, h2, hb2⟩
 go_wp2_with (fail)
 have hE2 := hb1.trans hb2
 have hF2 : ∀ k, F k → k < w2.heap.size := fun k hk => by have := hF k hk; have := hE2.size; omega
 have hEa : Ext w2 (w2.alloc (.cells #[.slice A1 (pv b.length).length c1, .slice A2 (le4 s).length c2, .slice A b.length c] 120)) := (Ext.refl w2).alloc _
 refine (concatBO F (some ⟨w2.heap.size, 0, none⟩) 3 [pv b.length, le4 s, b] (frame b) (by simp [frame, hs']) _ ?_ (by simp) (by have h4 : (le4 s).length = 4 := rfl; simp only [frame, List.length_append, hs', Int.toNat_natCast, h4]; omega)).mono ?_
 · refine lit_one rfl (bN _ _) (fun h => absurd (hF2 _ h) (by omega)) rfl (by simp [maxLen]) (fun k x hk => ?_)
   match k, hk with
   | 0, hk => simp at hk; subst hk; exact ⟨_, rfl, A1, c1, rfl, (h1.ext hb2).ext hEa⟩
   | 1, hk => simp at hk; subst hk; exact ⟨_, rfl, A2, c2, rfl, h2.ext hEa⟩
   | 2, hk => simp at hk; subst hk; exact ⟨_, rfl, A, c, rfl, (hA.ext hE2).ext hEa⟩
 rintro e w3 ⟨v, rfl, h3, hb3⟩
 have h3' := h3.lower (hE2.trans hEa).size
 go_wp2
 go_ret
 exact ⟨_, rfl, h3', (hE2.trans hEa).trans hb3⟩
theorem frameC (F : Nat → Prop) (A : Option Addr) (c : Nat) (b : List Int) (w : World) (hA : rdU8.Sl F w A c b) (hn : b.length ≤ 10000000) (hF : ∀ k, F k → k < w.heap.size) :
   Calls Tryz.prog 128 #[.slice A b.length c] w fun e w' => ∃ A' c', e = .returned (.slice A' (frame b).length c') ∧ rdU8.Sl F w' A' c' (frame b) ∧ Ext w w' :=
 (frameO F A c b w hA hn hF).mono fun e w' ⟨v, h1, h2, h3⟩ => by
   obtain ⟨A', c', rfl, hs'⟩ := h2.shut hF
   exact ⟨A', c', h1, hs', h3⟩
theorem equalB (F : Nat → Prop) (A B : Option Addr) (c d : Nat) (l m : List Int) (w : World) (hA : (rdInt .u8).Sl F w A c l) (hB : (rdInt .u8).Sl F w B d m) (hn : l.length ≤ 100000000) (hm : m.length ≤ 100000000) :
   Calls Tryz.prog 170 #[.slice A l.length c, .slice B m.length d] w fun e w' => e = .returned (.bool (decide (l = m))) ∧ Ext w w' := by
 by_cases hlen : l.length = m.length
 · have h0 : ((l.length : Int) != (m.length : Int)) = false := by simp [hlen]
   go_enter Tryz.func170, Tryz.ntmps170
   go_wp2_with (fail)
   go_loopw [5, 13] (fun _ i wr => ∃ k : Nat, i = .int .i64 k ∧ k ≤ l.length ∧ As (l.take k = m.take k) ∧ Ext w wr) (fun _ i _ => l.length - (intOf i).toNat)
   case atStart => exact ⟨0, by go_num, Nat.zero_le _, ⟨rfl⟩, Ext.refl _⟩
   case round =>
     obtain ⟨k, rfl, hkl, htk, hE⟩ := hrel
     by_cases hlt : k < l.length
     · obtain ⟨b, o, rfl, hc⟩ := int_get (hA.ext hE) hlt
       obtain ⟨b', o', rfl, hc'⟩ := int_get (hB.ext hE) (k := k) (by omega)
       have i1 : (0 : Int) ≤ (k : Int) := by omega
       have i2 : (k : Int) < (l.length : Int) := by omega
       have i3 : (k : Int) < (m.length : Int) := by omega
       have hkm : k < m.length := by omega
       by_cases hee : l[k] = m[k]
       · have hne : (l[k] != m[k]) = false := by simp [hee]
         have htk' : l.take (k + 1) = m.take (k + 1) := by rw [take_snoc _ hlt, take_snoc _ hkm, htk.out, hee]
         have HT := As.mk htk'
         clear htk'
         go_wp2_with (fail)
         go_quiet (fail)
         go_wp2
         go_roundw
         case rel => exact ⟨k + 1, by go_num, by omega, HT, hE.trans ((Ext.refl _).drewN _)⟩
         case measure => simp [intOf] <;> omega
       · have hne : (l[k] != m[k]) = true := by simp [hee]
         have hlm : ¬ l = m := fun h => hee (by simp [h])
         go_wp2_with (fail)
         go_quiet (fail)
         go_wp2
         go_ret
         exact ⟨by rw [decide_eq_false hlm]; rfl, hE.trans ((Ext.refl _).drewN _)⟩
     · obtain rfl : k = l.length := by omega
       have ht := htk.out
       rw [List.take_length, hlen, List.take_length] at ht
       go_wp2
       go_ret
       exact ⟨by rw [decide_eq_true ht]; rfl, hE⟩
 · have h0 : ((l.length : Int) != (m.length : Int)) = true := by simp; omega
   have hlm : ¬ l = m := fun h => hlen (by rw [h])
   go_enter Tryz.func170, Tryz.ntmps170
   go_wp2
   go_ret
   exact ⟨by rw [decide_eq_false hlm]; rfl, Ext.refl w⟩
theorem equalI (F : Nat → Prop) (A B : Option Addr) (c d : Nat) (l m : List Int) (w : World) (hA : (rdInt .i64).Sl F w A c l) (hB : (rdInt .i64).Sl F w B d m) (hn : l.length ≤ 100000000) (hm : m.length ≤ 100000000) :
   Calls Tryz.prog 254 #[.slice A l.length c, .slice B m.length d] w fun e w' => e = .returned (.bool (decide (l = m))) ∧ Ext w w' := by
 by_cases hlen : l.length = m.length
 · have h0 : ((l.length : Int) != (m.length : Int)) = false := by simp [hlen]
   go_enter Tryz.func254, Tryz.ntmps254
   go_wp2_with (fail)
   go_loopw [5, 13] (fun _ i wr => ∃ k : Nat, i = .int .i64 k ∧ k ≤ l.length ∧ As (l.take k = m.take k) ∧ Ext w wr) (fun _ i _ => l.length - (intOf i).toNat)
   case atStart => exact ⟨0, by go_num, Nat.zero_le _, ⟨rfl⟩, Ext.refl _⟩
   case round =>
     obtain ⟨k, rfl, hkl, htk, hE⟩ := hrel
     by_cases hlt : k < l.length
     · obtain ⟨b, o, rfl, hc⟩ := int_get (hA.ext hE) hlt
       obtain ⟨b', o', rfl, hc'⟩ := int_get (hB.ext hE) (k := k) (by omega)
       have i1 : (0 : Int) ≤ (k : Int) := by omega
       have i2 : (k : Int) < (l.length : Int) := by omega
       have i3 : (k : Int) < (m.length : Int) := by omega
       have hkm : k < m.length := by omega
       by_cases hee : l[k] = m[k]
       · have hne : (l[k] != m[k]) = false := by simp [hee]
         have htk' : l.take (k + 1) = m.take (k + 1) := by rw [take_snoc _ hlt, take_snoc _ hkm, htk.out, hee]
         have HT := As.mk htk'
         clear htk'
         go_wp2_with (fail)
         go_quiet (fail)
         go_wp2
         go_roundw
         case rel => exact ⟨k + 1, by go_num, by omega, HT, hE.trans ((Ext.refl _).drewN _)⟩
         case measure => simp [intOf] <;> omega
       · have hne : (l[k] != m[k]) = true := by simp [hee]
         have hlm : ¬ l = m := fun h => hee (by simp [h])
         go_wp2_with (fail)
         go_quiet (fail)
         go_wp2
         go_ret
         exact ⟨by rw [decide_eq_false hlm]; rfl, hE.trans ((Ext.refl _).drewN _)⟩
     · obtain rfl : k = l.length := by omega
       have ht := htk.out
       rw [List.take_length, hlen, List.take_length] at ht
       go_wp2
       go_ret
       exact ⟨by rw [decide_eq_true ht]; rfl, hE⟩
 · have h0 : ((l.length : Int) != (m.length : Int)) = true := by simp; omega
   have hlm : ¬ l = m := fun h => hlen (by rw [h])
   go_enter Tryz.func254, Tryz.ntmps254
   go_wp2
   go_ret
   exact ⟨by rw [decide_eq_false hlm]; rfl, Ext.refl w⟩
end K8
end Go.Proofs.YtbjeejimedhniaaGreatDoor
namespace Go.Proofs
open Go.Shelf
def Tryz.laysnb115_ren : Go.Shelf.Ren := ⟨fun | 115 => 162 | n => n, fun | 37 => 120 | 4 => 4 | 9 => 9 | 5 => 5 | n => n, fun | n => n⟩
theorem Tryz.laysnb115 : Go.Proofs.Lays.nb115 Tryz.prog Tryz.laysnb115_ren := {
  mixed := by kernel_rfl
  f115 := Tryz.func162.trans (congrArg some (by kernel_rfl))
  t4 := Tryz.underlying4
  a4 := Tryz.isAgg4
  z4 := Tryz.sizeOf4
  v4 := Tryz.zeroValue4
  t9 := Tryz.underlying9
  a9 := Tryz.isAgg9
  z9 := Tryz.sizeOf9
  v9 := Tryz.zeroValue9
  t37 := Tryz.underlying120
  a37 := Tryz.isAgg120
  z37 := Tryz.sizeOf120
  v37 := Tryz.zeroValue120
  t5 := Tryz.underlying5
  a5 := Tryz.isAgg5
  z5 := Tryz.sizeOf5
  v5 := Tryz.zeroValue5 }
theorem Tryz.bytes_Equal_all (p1 p2 : Option Addr) (n c m d : Nat) (xs ys : List Int) (w : World) (hx : xs.length = n) (hy : ys.length = m) (h1 : Lib.BytesIn w p1 n xs) (h2 : Lib.BytesIn w p2 m ys) :
    Calls Tryz.prog 162 #[.slice p1 n c, .slice p2 m d] w fun e w' => e = .returned (.bool (Lib.bytesOf xs == Lib.bytesOf ys)) ∧ w' = w := Any.bytes_Equal_all Tryz.laysnb115 p1 p2 n c m d xs ys w hx hy h1 h2
end Go.Proofs
namespace Go.Proofs.YtbjeejimedhniaaGreatDoor
namespace K9
open Go Go.RowKit
open KB Bits Num NV K6 K7 K8
theorem bytesIn {F : Nat → Prop} {w : World} {A : Option Addr} {c : Nat} {l : List Int} (h : rdU8.Sl F w A c l) : Lib.BytesIn w A l.length l := by
 intro hn
 obtain ⟨b, o, rfl, _⟩ := h.get hn
 refine ⟨b, o, rfl, fun i hi => ?_⟩
 obtain ⟨b', o', e, hc⟩ := int_get h hi
 simp only [Option.some.injEq, Addr.mk.injEq, and_true] at e
 obtain ⟨rfl, rfl⟩ := e
 rw [hc]; simp [List.getD, hi]
theorem bytesEqC (F : Nat → Prop) (A B : Option Addr) (c d : Nat) (l : List Int) (w : World) (hA : rdU8.Sl F w A c l) (hB : rdU8.Sl F w B d l) :
   Calls Tryz.prog 162 #[.slice A l.length c, .slice B l.length d] w fun e w' => e = .returned (.bool true) ∧ w = w' :=
 (Tryz.bytes_Equal_all A B l.length c l.length d l l w rfl rfl (bytesIn hA) (bytesIn hB)).mono fun e w' ⟨h1, h2⟩ => ⟨by rw [h1]; simp, h2.symm⟩
theorem elVal : El Tryz.prog 41 33 rdVal.sz 24 := El.mk (z := .agg #[.int .i64 0, .string ⟨#[]⟩]) Tryz.underlying41 (by kernel_rfl) rfl (by decide)
theorem elRow : El Tryz.prog 42 41 rdRow.sz 24 := El.mk (z := .slice none 0 0) Tryz.underlying42 (by kernel_rfl) rfl (by decide)
theorem cloneB (F : Nat → Prop) (A : Option Addr) (c : Nat) (l : List Int) (w : World) (hA : rdU8.Sl F w A c l) (hn : l.length ≤ 100000000) (hF : ∀ k, F k → k < w.heap.size) :
   Calls Tryz.prog 171 #[.slice A l.length c] w fun e w' => ∃ A' c', e = .returned (.slice A' l.length c') ∧ rdU8.Sl F w' A' c' l ∧ Ext w w' := by
 rcases A with _ | ad
 · obtain rfl : c = 0 := hA.nil_ rfl
   obtain rfl : l = [] := List.eq_nil_of_length_eq_zero (by have := hA.le; omega)
   have hnil : ∀ W, (binOp .eql 120 (.slice none 0 0) (.slice none 0 0)).run Tryz.prog W = .ok (.bool true) W := fun W => Lib.run_eql_slice_nil W _ _ none _ _ 0 0 elU8.1
   go_enter Tryz.func171, Tryz.ntmps171
   go_wp2
   go_ret
   exact ⟨none, 0, rfl, hA, Ext.refl w⟩
 · have hnil : ∀ W n, (binOp .eql 120 (.slice (some ad) n c) (.slice none 0 0)).run Tryz.prog W = .ok (.bool false) W := fun W n => Lib.run_eql_slice_nil W _ _ (some ad) _ _ 0 0 elU8.1
   have hown : rdU8.Own F w.heap.size 5 (w.alloc (.cells #[] 5)) (.slice (some ⟨w.heap.size, 0, none⟩) 0 0) [] := ⟨[], World.ownsRow_made w _ _ (Nat.le_refl _) (by unfold maxLen; omega) (by simp), fun k x h => by simp at h⟩
   have hA1 : rdU8.Sl (Fv F (.slice (some ⟨w.heap.size, 0, none⟩) 0 0)) (w.alloc (.cells #[] 5)) (some ad) c l := Rd.Sl.far (by decide) hA ((Ext.refl w).alloc _) (fun g hg => by simp [Value.ownBlock] at hg; subst hg; simp)
   go_enter Tryz.func171, Tryz.ntmps171
   go_wp2_with (first | (at_builtin; refine wpList_app rfl _ _ _ rfl rdU8 elU8 rfl hown rfl rfl hA1 (by simp; omega) (by simp [maxLen]; omega) (w0 := w) (by simp) ((Ext.refl w).alloc _) ?_; intro v' w1 hown1 hg1 hE1))
   obtain ⟨A', c', rfl, hs⟩ := hown1.shut hF
   go_ret
   exact ⟨A', c', rfl, hs, hE1⟩
theorem cloneI (F : Nat → Prop) (A : Option Addr) (c : Nat) (l : List Int) (w : World) (hA : (rdInt .i64).Sl F w A c l) (hn : l.length ≤ 100000000) (hF : ∀ k, F k → k < w.heap.size) :
   Calls Tryz.prog 37 #[.slice A l.length c] w fun e w' => ∃ A' c', e = .returned (.slice A' l.length c') ∧ (rdInt .i64).Sl F w' A' c' l ∧ Ext w w' := by
 rcases A with _ | ad
 · obtain rfl : c = 0 := hA.nil_ rfl
   obtain rfl : l = [] := List.eq_nil_of_length_eq_zero (by have := hA.le; omega)
   have hnil : ∀ W, (binOp .eql 25 (.slice none 0 0) (.slice none 0 0)).run Tryz.prog W = .ok (.bool true) W := fun W => Lib.run_eql_slice_nil W _ _ none _ _ 0 0 elInt.1
   go_enter Tryz.func37, Tryz.ntmps37
   go_wp2
   go_ret
   exact ⟨none, 0, rfl, hA, Ext.refl w⟩
 · have hnil : ∀ W n, (binOp .eql 25 (.slice (some ad) n c) (.slice none 0 0)).run Tryz.prog W = .ok (.bool false) W := fun W n => Lib.run_eql_slice_nil W _ _ (some ad) _ _ 0 0 elInt.1
   have hown : (rdInt .i64).Own F w.heap.size 3 (w.alloc (.cells #[] 3)) (.slice (some ⟨w.heap.size, 0, none⟩) 0 0) [] := ⟨[], World.ownsRow_made w _ _ (Nat.le_refl _) (by unfold maxLen; omega) (by simp), fun k x h => by simp at h⟩
   have hA1 : (rdInt .i64).Sl (Fv F (.slice (some ⟨w.heap.size, 0, none⟩) 0 0)) (w.alloc (.cells #[] 3)) (some ad) c l := Rd.Sl.far (by decide) hA ((Ext.refl w).alloc _) (fun g hg => by simp [Value.ownBlock] at hg; subst hg; simp)
   go_enter Tryz.func37, Tryz.ntmps37
   go_wp2_with (first | (at_builtin; refine wpList_app rfl _ _ _ rfl (rdInt .i64) elInt rfl hown rfl rfl hA1 (by simp; omega) (by simp [maxLen]; omega) (w0 := w) (by simp) ((Ext.refl w).alloc _) ?_; intro v' w1 hown1 hg1 hE1))
   obtain ⟨A', c', rfl, hs⟩ := hown1.shut hF
   go_ret
   exact ⟨A', c', rfl, hs, hE1⟩
theorem cloneV (F : Nat → Prop) (A : Option Addr) (c : Nat) (l : Row) (w : World) (hA : rdVal.Sl F w A c l) (hn : l.length ≤ 100000000) (hF : ∀ k, F k → k < w.heap.size) :
   Calls Tryz.prog 258 #[.slice A l.length c] w fun e w' => ∃ A' c', e = .returned (.slice A' l.length c') ∧ rdVal.Sl F w' A' c' l ∧ Ext w w' := by
 rcases A with _ | ad
 · obtain rfl : c = 0 := hA.nil_ rfl
   obtain rfl : l = [] := List.eq_nil_of_length_eq_zero (by have := hA.le; omega)
   have hnil : ∀ W, (binOp .eql 41 (.slice none 0 0) (.slice none 0 0)).run Tryz.prog W = .ok (.bool true) W := fun W => Lib.run_eql_slice_nil W _ _ none _ _ 0 0 elVal.1
   go_enter Tryz.func258, Tryz.ntmps258
   go_wp2
   go_ret
   exact ⟨none, 0, rfl, hA, Ext.refl w⟩
 · have hnil : ∀ W n, (binOp .eql 41 (.slice (some ad) n c) (.slice none 0 0)).run Tryz.prog W = .ok (.bool false) W := fun W n => Lib.run_eql_slice_nil W _ _ (some ad) _ _ 0 0 elVal.1
   have hown : rdVal.Own F w.heap.size 33 (w.alloc (.cells #[] 33)) (.slice (some ⟨w.heap.size, 0, none⟩) 0 0) [] := ⟨[], World.ownsRow_made w _ _ (Nat.le_refl _) (by unfold maxLen; omega) (by simp), fun k x h => by simp at h⟩
   have hA1 : rdVal.Sl (Fv F (.slice (some ⟨w.heap.size, 0, none⟩) 0 0)) (w.alloc (.cells #[] 33)) (some ad) c l := Rd.Sl.far (by decide) hA ((Ext.refl w).alloc _) (fun g hg => by simp [Value.ownBlock] at hg; subst hg; simp)
   go_enter Tryz.func258, Tryz.ntmps258
   go_wp2_with (first | (at_builtin; refine wpList_app rfl _ _ _ rfl rdVal elVal rfl hown rfl rfl hA1 (by simp; omega) (by simp [maxLen]; omega) (w0 := w) (by simp) ((Ext.refl w).alloc _) ?_; intro v' w1 hown1 hg1 hE1))
   obtain ⟨A', c', rfl, hs⟩ := hown1.shut hF
   go_ret
   exact ⟨A', c', rfl, hs, hE1⟩
theorem cloneR (F : Nat → Prop) (A : Option Addr) (c : Nat) (l : List Row) (w : World) (hA : rdRow.Sl F w A c l) (hn : l.length ≤ 100000000) (hF : ∀ k, F k → k < w.heap.size) :
   Calls Tryz.prog 215 #[.slice A l.length c] w fun e w' => ∃ A' c', e = .returned (.slice A' l.length c') ∧ rdRow.Sl F w' A' c' l ∧ Ext w w' := by
 rcases A with _ | ad
 · obtain rfl : c = 0 := hA.nil_ rfl
   obtain rfl : l = [] := List.eq_nil_of_length_eq_zero (by have := hA.le; omega)
   have hnil : ∀ W, (binOp .eql 42 (.slice none 0 0) (.slice none 0 0)).run Tryz.prog W = .ok (.bool true) W := fun W => Lib.run_eql_slice_nil W _ _ none _ _ 0 0 elRow.1
   go_enter Tryz.func215, Tryz.ntmps215
   go_wp2
   go_ret
   exact ⟨none, 0, rfl, hA, Ext.refl w⟩
 · have hnil : ∀ W n, (binOp .eql 42 (.slice (some ad) n c) (.slice none 0 0)).run Tryz.prog W = .ok (.bool false) W := fun W n => Lib.run_eql_slice_nil W _ _ (some ad) _ _ 0 0 elRow.1
   have hown : rdRow.Own F w.heap.size 41 (w.alloc (.cells #[] 41)) (.slice (some ⟨w.heap.size, 0, none⟩) 0 0) [] := ⟨[], World.ownsRow_made w _ _ (Nat.le_refl _) (by unfold maxLen; omega) (by simp), fun k x h => by simp at h⟩
   have hA1 : rdRow.Sl (Fv F (.slice (some ⟨w.heap.size, 0, none⟩) 0 0)) (w.alloc (.cells #[] 41)) (some ad) c l := Rd.Sl.far (by decide) hA ((Ext.refl w).alloc _) (fun g hg => by simp [Value.ownBlock] at hg; subst hg; simp)
   go_enter Tryz.func215, Tryz.ntmps215
   go_wp2_with (first | (at_builtin; refine wpList_app rfl _ _ _ rfl rdRow elRow rfl hown rfl rfl hA1 (by simp; omega) (by simp [maxLen]; omega) (w0 := w) (by simp) ((Ext.refl w).alloc _) ?_; intro v' w1 hown1 hg1 hE1))
   obtain ⟨A', c', rfl, hs⟩ := hown1.shut hF
   go_ret
   exact ⟨A', c', rfl, hs, hE1⟩
theorem frame_length (b : List Int) : (frame b).length = (pv b.length).length + 4 + b.length := by
 have h4 : (le4 (sum32 b).toNat).length = 4 := rfl
 simp only [frame, List.length_append, h4]; omega
theorem frame_data (b r : List Int) : ((frame b ++ r).take ((pv b.length).length + 4 + b.length)).drop ((pv b.length).length + 4) = b := by
 have h4 : (le4 (sum32 b).toNat).length = 4 := rfl
 rw [← frame_length, List.take_left, frame, ← List.append_assoc, List.drop_left' (by rw [List.length_append, h4])]
theorem frame_sum (b r : List Int) : ((frame b ++ r).take ((pv b.length).length + 4)).drop (pv b.length).length = le4 (sum32 b).toNat := by
 have h4 : (le4 (sum32 b).toNat).length = 4 := rfl
 rw [frame, List.append_assoc, List.append_assoc, ← List.append_assoc (pv b.length), List.take_left' (by rw [List.length_append, h4]), List.drop_left]
theorem unframeC (F : Nat → Prop) (A : Option Addr) (c : Nat) (b r l : List Int) (hl : l = frame b ++ r) (w : World) (hA : rdU8.Sl F w A c l) (hb : b.length ≤ 1048576) (hn : l.length ≤ 10000000) (hF : ∀ k, F k → k < w.heap.size) :
   Calls Tryz.prog 158 #[.slice A l.length c] w fun e w' => ∃ A' c', e = .returned (.tuple #[.slice A' b.length c', .int .i64 (frame b).length, .int .i64 0]) ∧ rdU8.Sl F w' A' c' b ∧ Ext w w' := by
 have hfl := frame_length b
 have hll : l.length = (pv b.length).length + 4 + b.length + r.length := by rw [hl, List.length_append, hfl]
 have hp1 := pv_pos b.length
 have hp10 := pv_le10 b.length (by omega)
 have hvar : l = pv b.length ++ ((le4 (sum32 b).toNat ++ b) ++ r) := by rw [hl, frame, List.append_assoc]
 have hs := sum32_u32 b
 obtain ⟨s, hs'⟩ : ∃ s : Nat, sum32 b = s := ⟨(sum32 b).toNat, by omega⟩
 obtain ⟨A1, hsl1, hS1⟩ := hA.cut elU8 ((pv b.length).length + 4) ((pv b.length).length + 4 + b.length) b.length (((pv b.length).length : Int) + 4) (((pv b.length).length : Int) + 4 + (b.length : Int)) (by omega) (by omega) (by omega) (by omega) (by omega)
 obtain ⟨A2, hsl2, hS2⟩ := hA.cut elU8 (pv b.length).length ((pv b.length).length + 4) 4 ((pv b.length).length : Int) (((pv b.length).length : Int) + 4) (by omega) (by omega) (by omega) (by omega) (by omega)
 rw [hl, frame_data] at hS1
 rw [hl, frame_sum, hs', Int.toNat_natCast] at hS2
 have HFL := As.mk hfl
 have HV := As.mk hvar
 have HLL := As.mk hll
 clear hfl hvar hll hl
 generalize hP : (pv b.length).length = p at *
 replace hP := As.mk hP
 have hw1 : IntKind.u64.wrap ((l.length : Int) - (p : Int)) = (l.length : Int) - (p : Int) := wrap_u64_id (by have := HLL.out; omega) (by omega)
 have hd1 : ((p : Int) == 0) = false := by simp; omega
 have hd2 : decide ((1048576 : Int) < (b.length : Int)) = false := decide_eq_false (by omega)
 have hd3 : decide ((l.length : Int) - (p : Int) < (b.length : Int) + 4) = false := decide_eq_false (by have := HLL.out; omega)
 go_enter Tryz.func158, Tryz.ntmps158
 go_wp2_with (fail)
 refine (varC F A c b.length _ l HV.out w (by omega) hA (by omega)).mono ?_; rintro e w1 ⟨rfl, hb1⟩
 rw [hP.out]
 go_wp2_with (fail)
 have hi1 : (0 : Int) ≤ (p : Int) + 4 := by omega
 have hi2 : IntKind.i64.wrap ((p : Int) + 4) = (p : Int) + 4 := by rw [IntKind.wrap_i64]; omega
 have h44 : (le4 s).length = 4 := rfl
 have hF1 : ∀ k, F k → k < w1.heap.size := fun k hk => by have := hF k hk; have := hb1.size; omega
 have hS1' := hS1.ext hb1
 have hS2' := hS2.ext hb1
 go_region_held3 (fun w' => Ext w1 w')
   (((try dsimp only); go_split_ands; (repeat' with_reducible apply And.intro) <;> first | with_reducible assumption | ((repeat (first | with_reducible refine Ext.drew ?_ | with_reducible refine Ext.drewN ?_ _ | with_reducible refine Ext.alloc ?_ _)); first | with_reducible assumption | with_reducible exact Ext.refl _ | with_reducible exact Ext.trans (by with_reducible assumption) (by with_reducible assumption)) | (with_reducible exact Ext.cell (by with_reducible assumption) (by with_reducible assumption)) | (go_keep; done)))
   (first | (go_at_call 230; refine (sumC F A1 _ b _ (by first | with_reducible exact hS1' | exact Rd.Sl.ext hS1' (by with_reducible assumption)) (by omega)).mono ?_; rintro e w' ⟨rfl, rfl⟩; rw [hs']) | (go_at_call 229; refine (bytesC F s (by omega) _ (fun k hk => Nat.lt_of_lt_of_le (hF1 k hk) (Ext.size (by with_reducible assumption)))).mono ?_; rintro e w2 ⟨A3, c3, rfl, h3, hb3⟩; rw [h44]) | (go_at_call 170; refine (equalB F A3 A2 c3 _ (le4 s) (le4 s) _ (by first | with_reducible exact h3 | exact Rd.Sl.ext h3 (by with_reducible assumption)) (by first | with_reducible exact hS2' | exact Rd.Sl.ext hS2' (by with_reducible assumption)) (by rw [h44]; decide) (by rw [h44]; decide)).mono ?_; rintro e w4 ⟨rfl, hb4⟩; rw [decide_eq_true rfl]))
 rename_i w4 hE4
 have hE5 := hb1.trans hE4
 go_wp2_with (fail)
 refine (cloneB F A1 _ b _ (hS1.ext hE5) (by omega) (fun k hk => Nat.lt_of_lt_of_le (hF k hk) hE5.size)).mono ?_; rintro e w5 ⟨A5, c5, rfl, h5, hb5⟩
 go_wp2
 go_ret3
 exact ⟨A5, c5, by rw [HFL.out]; rfl, h5, hE5.trans hb5⟩
end K9
end Go.Proofs.YtbjeejimedhniaaGreatDoor
