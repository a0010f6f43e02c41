/- Contracts of the program's functions, as the walks of the law use them. -/
import Derived.Test.YtbjeejimedhniaaGreatDoorD7
import Derived.Test.YtbjeejimedhniaaGreatDoorD3
import Derived.Test.YtbjeejimedhniaaGreatDoorD1
import Derived.BigRegion
import Derived.RegionTactic
set_option linter.unusedVariables false
set_option linter.unusedSimpArgs false
set_option maxRecDepth 100000
set_option maxHeartbeats 2000000
namespace Go.Proofs.YtbjeejimedhniaaGreatDoor
namespace K10
open Go Go.RowKit
open KB Bits Num NV K6 K7 K8 K9
abbrev rdN : Rd Int := rdInt .i64
theorem elN : El Tryz.prog 318 2 rdN.sz 8 := El.mk (z := .int .i64 0) Tryz.underlying318 (by kernel_rfl) rfl (by decide)
def dl (last : Int) : List Int → List Int
 | [] => []
 | x :: xs => pv (zig (wrap64 (x - last))).toNat ++ dl x xs
def fx (l : List Int) : List Int := l.flatMap fun x => le8 (IntKind.u64.wrap x).toNat
def putI (l : List Int) : List Int := pv l.length ++ if 8 * l.length ≤ (dl 0 l).length then 0 :: fx l else 1 :: dl 0 l
theorem wrap64_i64 (n : Int) : -9223372036854775808 ≤ wrap64 n ∧ wrap64 n ≤ 9223372036854775807 := by unfold wrap64; omega
theorem zig_nat (n : Int) : ∃ z : Nat, zig (wrap64 n) = z ∧ z < 18446744073709551616 := by
 have h := zig_range _ (wrap64_i64 n).1 (wrap64_i64 n).2
 exact ⟨(zig (wrap64 n)).toNat, by omega, by omega⟩
theorem dl_length_le (l : List Int) : ∀ last, (dl last l).length ≤ 10 * l.length := by
 induction l with
 | nil => intro last; simp [dl]
 | cons x xs ih =>
   intro last
   obtain ⟨z, hz, hz1⟩ := zig_nat (x - last)
   have h1 := pv_le10 z hz1
   have h2 := ih x
   simp only [dl, List.length_append, List.length_cons, hz, Int.toNat_natCast]
   omega
theorem fx_length (l : List Int) : (fx l).length = 8 * l.length := by
 induction l with
 | nil => rfl
 | cons x xs ih =>
   have h8 : (le8 (IntKind.u64.wrap x).toNat).length = 8 := rfl
   unfold fx at ih ⊢
   rw [List.flatMap_cons, List.length_append, ih, h8, List.length_cons]
   omega
theorem putI_length_le (l : List Int) (hl : l.length ≤ 1000000) : (putI l).length ≤ 8 * l.length + 11 := by
 have h1 := pv_le10 l.length (by omega)
 unfold putI
 split
 · rw [List.length_append, List.length_cons, fx_length]; omega
 · rw [List.length_append, List.length_cons]; omega
theorem deltaC (F : Nat → Prop) (A : Option Addr) (c : Nat) (l : List Int) (w : World) (hA : rdN.Sl F w A c l) (hn : l.length ≤ 1000000) (hF : ∀ k, F k → k < w.heap.size) :
   Calls Tryz.prog 310 #[.slice A l.length c] w fun e w' => ∃ A' c', e = .returned (.slice A' (dl 0 l).length c') ∧ rdU8.Sl F w' A' c' (dl 0 l) ∧ Ext w w' := by
 have HLE := As.mk (dl_length_le l 0)
 go_enter Tryz.func310, Tryz.ntmps310
 go_wp2_with (fail)
 go_loopw [3, 4, 6, 9] (fun v y _ i wr => ∃ (k : Nat) (M : List Int) (last : Int), i = .int .i64 k ∧ k ≤ l.length ∧ y = .int .i64 last ∧ As (dl 0 l = M ++ dl last (l.drop k)) ∧ rdU8.Own F w.heap.size 5 wr v M ∧ Ext w wr) (fun _ _ _ i _ => l.length - (intOf i).toNat)
 case atStart => exact ⟨0, [], 0, by go_num, Nat.zero_le _, rfl, ⟨rfl⟩, Rd.Own.nil _ _ _ _ _, Ext.refl _⟩
 case round =>
   obtain ⟨k, M, last, rfl, hkl, rfl, hd, hown, hE⟩ := hrel
   by_cases hlt : k < l.length
   · obtain ⟨b, o, rfl, hc⟩ := int_get (hA.ext hE) hlt
     obtain ⟨z, hz, hz1⟩ := zig_nat (l[k] - last)
     have hd1 := hd.out
     rw [List.drop_eq_getElem_cons hlt, dl, hz, Int.toNat_natCast, ← List.append_assoc] at hd1
     have hlen := congrArg List.length hd1
     simp only [List.length_append] at hlen
     have hM : M.length + (pv z).length ≤ 10000000 := by have := HLE.out; omega
     have HD := As.mk hd1
     clear hd1 hlen
     go_wp2_with (fail)
     refine (zigC (wrap64 (l[k] - last)) (wrap64_i64 _).1 (wrap64_i64 _).2 _).mono ?_; rintro e w' ⟨rfl, rfl⟩
     rw [hz]
     go_wp2_with (fail)
     refine (putVar (Fv F u3) z hz1 _ (fun k hk => by rcases hk with hk | hk; (· have := hF k hk; have := hE.size; omega); exact (hown.ge k hk).2)).mono ?_; rintro e w1 ⟨A1, c1, rfl, h1, hb1⟩
     clear hc
     go_wp2_with (first | (at_builtin; refine wpList_app rfl _ _ _ rfl rdU8 elU8 rfl (hown.ext hb1) rfl rfl h1 (by omega) (by unfold maxLen; omega) (hE.trans hb1).size (hE.trans hb1) ?_; intro v' w2 hown2 hg2 hE2))
     go_roundw
     case rel => exact ⟨k + 1, M ++ pv z, l[k], by go_num, by omega, rfl, HD, hown2, hE2⟩
     case measure => simp [intOf] <;> omega
   · obtain rfl : k = l.length := by omega
     have hd1 := hd.out
     rw [List.drop_length, dl, List.append_nil] at hd1
     subst hd1
     obtain ⟨A', c', rfl, hs⟩ := hown.shut hF
     go_wp2
     go_ret
     exact ⟨A', c', rfl, hs, hE⟩
def byteAt (l : List Int) (j : Nat) : Int := IntKind.u64.wrap (l.getD (j / 8) 0) / 2 ^ (8 * (j % 8)) % 256
theorem le8_range (n : Nat) (h : n < 18446744073709551616) : le8 n = (List.range 8).map fun i => (n : Int) / 2 ^ (8 * i) % 256 := by
 have e : (List.range 8).map (fun i => (n : Int) / 2 ^ (8 * i) % 256) = [(n : Int) / 2 ^ (8 * 0) % 256, (n : Int) / 2 ^ (8 * 1) % 256, (n : Int) / 2 ^ (8 * 2) % 256, (n : Int) / 2 ^ (8 * 3) % 256, (n : Int) / 2 ^ (8 * 4) % 256, (n : Int) / 2 ^ (8 * 5) % 256, (n : Int) / 2 ^ (8 * 6) % 256, (n : Int) / 2 ^ (8 * 7) % 256] := rfl
 rw [e, le8]
 simp only [Nat.mul_zero, Int.pow_zero, Nat.reduceMul, Int.reducePow, Int.ediv_one]
 have h7 : ((n / 72057594037927936 : Nat) : Int) = (n : Int) / 72057594037927936 % 256 := by omega
 rw [h7]
 simp
theorem fx_at (l : List Int) : (List.range (8 * l.length)).map (byteAt l) = fx l := by
 induction l with
 | nil => rfl
 | cons x xs ih =>
   have e : 8 * (x :: xs).length = 8 + 8 * xs.length := by rw [List.length_cons]; omega
   rw [e, List.range_add, List.map_append, List.map_map]
   have hx : 0 ≤ IntKind.u64.wrap x ∧ IntKind.u64.wrap x < 18446744073709551616 := by rw [wrap_u64]; omega
   have h1 : (List.range 8).map (byteAt (x :: xs)) = le8 (IntKind.u64.wrap x).toNat := by
     rw [le8_range _ (by omega)]
     refine List.map_congr_left fun i hi => ?_
     have hi8 : i < 8 := by simpa using hi
     have e1 : i / 8 = 0 := by omega
     have e2 : i % 8 = i := by omega
     unfold byteAt
     rw [e1, e2, Int.toNat_of_nonneg hx.1]; rfl
   have h2 : (List.range (8 * xs.length)).map (byteAt (x :: xs) ∘ (8 + ·)) = (List.range (8 * xs.length)).map (byteAt xs) := by
     refine List.map_congr_left fun i _ => ?_
     have e1 : (8 + i) / 8 = i / 8 + 1 := by omega
     have e2 : (8 + i) % 8 = i % 8 := by omega
     show byteAt (x :: xs) (8 + i) = _
     unfold byteAt
     rw [e1, e2, List.getD_cons_succ]
   rw [h1, h2, ih]
   simp [fx]
theorem fx_of (l M : List Int) (hM : M.length = 8 * l.length) (hb : ∀ j (h : j < M.length), j < 8 * l.length → M[j] = byteAt l j) : M = fx l := by
 rw [← fx_at]
 apply List.ext_getElem
 · simp [hM]
 · intro j h1 h2
   rw [hb j h1 (by omega)]
   simp
theorem fixedC (F : Nat → Prop) (A : Option Addr) (c : Nat) (l : List Int) (w : World) (hA : rdN.Sl F w A c l) (hn : l.length ≤ 1000000) (hF : ∀ k, F k → k < w.heap.size) :
   Calls Tryz.prog 311 #[.slice A l.length c] w fun e w' => ∃ A' c', e = .returned (.slice A' (fx l).length c') ∧ rdU8.Sl F w' A' c' (fx l) ∧ Ext w w' := by
 go_enter Tryz.func311, Tryz.ntmps311
 go_wp2_with (first | (at_make; refine wpList_makeN rfl (.tmp 7) (.tmp 7) 120 (by rfl) rdU8 (F := F) (B := w.heap.size) elU8 (n := 8 * l.length) (by rfl) (by rfl) (by omega) (by omega) (by decide) (by simp) w.heap.size rfl (z0 := .int .u8 0) (by kernel_rfl) (y0 := 0) (fun _ _ => rfl) ?_; intro w1 hown hraw hE1 hz1))
 go_loopw [4, 11] (fun _ i wr => ∃ (k : Nat) (M : List Int), i = .int .i64 k ∧ k ≤ 8 * l.length ∧ M.length = 8 * l.length ∧ (∀ j (h : j < M.length), j < k → M[j] = byteAt l j) ∧ rdU8.Own F w.heap.size 5 wr (.slice (some ⟨w.heap.size, 0, none⟩) (8 * l.length) (8 * l.length)) M ∧ Ext w wr) (fun _ i _ => 8 * l.length - (intOf i).toNat)
 case atStart => exact ⟨0, _, by go_num, Nat.zero_le _, by simp, fun j _ h => by omega, hown, hE1⟩
 case round =>
   clear hown hraw hE1 hz1
   obtain ⟨k, M, rfl, hkl, hM, hMb, hown, hE⟩ := hrel
   by_cases hlt : k < 8 * l.length
   · obtain ⟨b, o, rfl, hc⟩ := int_get (hA.ext hE) (k := k / 8) (by omega)
     obtain ⟨u, hu, hf, hC⟩ := hown.get1 rfl (i := k) (by omega)
     have hlt' : (k : Int) < 8 * (l.length : Int) := by omega
     have hby : byteAt l k = IntKind.u64.wrap l[k / 8] / 2 ^ (8 * (k % 8)) % 256 := by
       unfold byteAt
       rw [List.getD_eq_getElem?_getD, List.getElem?_eq_getElem (show k / 8 < l.length by omega)]; rfl
     have HS := As.mk (hown.set1 rfl (i := k) (by omega) (u := .int .u8 (byteAt l k)) (y := byteAt l k) rfl)
     have HB := As.mk hby
     clear hby
     go_wp2
     go_roundw
     case rel =>
       rw [← HB.out]
       refine ⟨k + 1, M.set k (byteAt l k), by go_num, by omega, by rw [List.length_set]; exact hM, fun j h hj => ?_, HS.out, hE.setCell (Nat.le_refl _) _⟩
       rw [List.getElem_set]
       split
       · next he => subst he; rfl
       · exact hMb j (by rw [List.length_set] at h; exact h) (by omega)
     case measure => simp [intOf] <;> omega
   · have hfx := fx_of l M hM (fun j h hj => hMb j h (by omega))
     obtain ⟨A', c', hv, hs⟩ := hown.shut hF
     rw [hfx] at hs hv
     go_wp2
     go_ret
     exact ⟨A', c', by rw [← hv]; rfl, hs, hE⟩
theorem putI_fx {l : List Int} (h : 8 * l.length ≤ (dl 0 l).length) : putI l = (pv l.length ++ [0]) ++ fx l := by rw [putI, if_pos h]; simp
theorem putI_dl {l : List Int} (h : ¬ 8 * l.length ≤ (dl 0 l).length) : putI l = (pv l.length ++ [1]) ++ dl 0 l := by rw [putI, if_neg h]; simp
theorem putIC (F : Nat → Prop) (A : Option Addr) (c : Nat) (l : List Int) (w : World) (hA : rdN.Sl F w A c l) (hn : l.length ≤ 1000000) (hF : ∀ k, F k → k < w.heap.size) :
   Calls Tryz.prog 238 #[.slice A l.length c] w fun e w' => ∃ A' c', e = .returned (.slice A' (putI l).length c') ∧ rdU8.Sl F w' A' c' (putI l) ∧ Ext w w' := by
 have hw1 := wrapU l.length (by omega)
 have hp10 := pv_le10 l.length (by omega)
 have hd10 := dl_length_le l 0
 have hf8 := As.mk (fx_length l)
 by_cases h : 8 * l.length ≤ (dl 0 l).length
 · have hput := As.mk (putI_fx h)
   have hcm : decide (8 * (l.length : Int) ≤ ((dl 0 l).length : Int)) = true := decide_eq_true (by omega)
   go_enter Tryz.func238, Tryz.ntmps238
   go_wp2_with (fail)
   refine (deltaC F A c l w hA hn hF).mono ?_; rintro e w1 ⟨A1, c1, rfl, h1, hb1⟩
   generalize dl 0 l = D at *
   go_wp2_with (fail)
   refine (fixedC F A c l w1 (hA.ext hb1) hn (fun k hk => Nat.lt_of_lt_of_le (hF k hk) hb1.size)).mono ?_; rintro e w2 ⟨A2, c2, rfl, h2, hb2⟩
   generalize fx l = X at *
   have hE2 := hb1.trans hb2
   go_wp2_with (fail)
   refine (putVarO F l.length (by omega) w2).mono ?_; rintro e w3 ⟨v, rfl, h3, hb3⟩
   go_wp2_with (first
     | (refine wpList_push (o := ⟨some 21, _, _, _, _, _⟩) rfl (.tmp 18) (.tmp 20) 120 rfl rdU8 elU8 (v := v) rfl (h3.ext ((Ext.refl w3).alloc _)) rfl (heap_alloc_new _ _) (y := 0) rfl (by omega) (by unfold maxLen; omega) (w0 := w2) (hb3.alloc _).size (hb3.alloc _) ?_; intro v4 w4 h4 hg4 hE4; have h5 := Rd.Sl.far (by decide) h2 hE4 h4.ge)
     | (refine wpList_app (o := ⟨some 23, _, _, _, _, _⟩) rfl (.tmp 21) (.tmp 22) 120 rfl rdU8 elU8 (v := v4) rfl h4 rfl rfl h5 (by have := hf8.out; simp; omega) (by have := hf8.out; simp [maxLen]; omega) (w0 := w2) (Ext.size hE4) hE4 ?_; intro v5 w5 h6 hg5 hE5))
   obtain ⟨A', c', rfl, hs⟩ := (h6.lower hE2.size).shut hF
   go_ret
   exact ⟨A', c', by rw [hput.out]; rfl, by rw [hput.out]; exact hs, hE2.trans hE5⟩
 · have hput := As.mk (putI_dl h)
   have hcm : decide (8 * (l.length : Int) ≤ ((dl 0 l).length : Int)) = false := decide_eq_false (by omega)
   go_enter Tryz.func238, Tryz.ntmps238
   go_wp2_with (fail)
   refine (deltaC F A c l w hA hn hF).mono ?_; rintro e w1 ⟨A1, c1, rfl, h1, hb1⟩
   generalize dl 0 l = D at *
   go_wp2_with (fail)
   have h2 := h1
   have hE2 := hb1
   refine (putVarO F l.length (by omega) w1).mono ?_; rintro e w3 ⟨v, rfl, h3, hb3⟩
   go_wp2_with (first
     | (refine wpList_push (o := ⟨some 21, _, _, _, _, _⟩) rfl (.tmp 18) (.tmp 20) 120 rfl rdU8 elU8 (v := v) rfl (h3.ext ((Ext.refl w3).alloc _)) rfl (heap_alloc_new _ _) (y := 1) rfl (by omega) (by unfold maxLen; omega) (w0 := w1) (hb3.alloc _).size (hb3.alloc _) ?_; intro v4 w4 h4 hg4 hE4; have h5 := Rd.Sl.far (by decide) h2 hE4 h4.ge)
     | (refine wpList_app (o := ⟨some 23, _, _, _, _, _⟩) rfl (.tmp 21) (.tmp 22) 120 rfl rdU8 elU8 (v := v4) rfl h4 rfl rfl h5 (by have := hf8.out; simp; omega) (by have := hf8.out; simp [maxLen]; omega) (w0 := w1) (Ext.size hE4) hE4 ?_; intro v5 w5 h6 hg5 hE5))
   obtain ⟨A', c', rfl, hs⟩ := (h6.lower hE2.size).shut hF
   go_ret
   exact ⟨A', c', by rw [hput.out]; rfl, by rw [hput.out]; exact hs, hE2.trans hE5⟩
end K10
namespace K11
open Go Go.RowKit
open KB Bits Num NV K6 K7 K8 K9 K10
def I64 (n : Int) : Prop := -9223372036854775808 ≤ n ∧ n ≤ 9223372036854775807
theorem wrap_back {n : Int} (h : I64 n) : wrap64 (((IntKind.u64.wrap n).toNat : Nat) : Int) = n := by
 have h0 : 0 ≤ IntKind.u64.wrap n := by rw [wrap_u64]; omega
 rw [Int.toNat_of_nonneg h0, wrap_u64]; unfold I64 at h; unfold wrap64; omega
theorem u64_lt (n : Int) : (IntKind.u64.wrap n).toNat < 18446744073709551616 := by rw [wrap_u64]; omega
theorem wideC (F : Nat → Prop) (A : Option Addr) (c : Nat) (l r b : List Int) (n : Nat) (hln : l.length = n) (hb : b = fx l ++ r) (w : World) (hA : rdU8.Sl F w A c b) (hn : n ≤ 2000) (hbl : b.length ≤ 10000000) (hl : ∀ x ∈ l, I64 x) (hF : ∀ k, F k → k < w.heap.size) :
   Calls Tryz.prog 414 #[.slice A b.length c, .int .i64 n] w fun e w' => ∃ A' c', e = .returned (.tuple #[.slice A' l.length c', .bool true]) ∧ rdN.Sl F w' A' c' l ∧ Ext w w' := by
 have HLN := As.mk hln
 have HB := As.mk hb
 clear hln hb
 go_enter Tryz.func414, Tryz.ntmps414
 go_wp2_with (fail)
 go_loopw [0, 6, 7, 8, 10] (fun bv v _ _ i wr => ∃ (k : Nat) (Ab : Option Addr) (cb : Nat) (rest : List Int), i = .int .i64 k ∧ k ≤ n ∧ bv = .slice Ab rest.length cb ∧ rdU8.Sl F w Ab cb rest ∧ As (rest = fx (l.drop k) ++ r) ∧ rest.length ≤ 10000000 ∧ rdN.Own F w.heap.size 2 wr v (l.take k) ∧ Ext w wr) (fun _ _ _ _ i _ => n - (intOf i).toNat)
 case atStart => exact ⟨0, A, c, b, by go_num, Nat.zero_le _, rfl, hA, HB, hbl, Rd.Own.nil _ _ _ _ _, Ext.refl _⟩
 case round =>
   obtain ⟨k, Ab, cb, rest, rfl, hkn, rfl, hR, hrest, hrl, hown, hE⟩ := hrel
   by_cases hlt : k < n
   · have hkl : k < l.length := by have := HLN.out; omega
     have hr1 := hrest.out
     rw [List.drop_eq_getElem_cons hkl, fx, List.flatMap_cons, List.append_assoc] at hr1
     have hwb := As.mk (wrap_back (hl l[k] (List.getElem_mem _)))
     have hu := u64_lt l[k]
     generalize (IntKind.u64.wrap l[k]).toNat = x at *
     have h8 : 8 ≤ rest.length := by rw [hr1, List.length_append]; show 8 ≤ 8 + _; omega
     obtain ⟨A1, hsl1, hS1⟩ := hR.suf elU8 8 (rest.length - 8) 8 h8 rfl rfl
     have hr2 : rest.drop 8 = fx (l.drop (k + 1)) ++ r := by rw [hr1]; exact List.drop_left' rfl
     have HTL : As ((l.take k).length ≤ 2000) := ⟨by rw [List.length_take]; omega⟩
     have HR1 := As.mk hr1
     have HR2 := As.mk hr2
     clear hr1 hr2
     go_wp2_with (fail)
     refine (get64C F Ab cb x _ rest HR1.out wr (by omega) (hR.ext hE) (by omega)).mono ?_; rintro e w1 ⟨rfl, hb1⟩
     have hown1 := hown.ext hb1
     have hE1 := hE.trans hb1
     go_wp2_with (fail)
     have hwb2 : As (IntKind.i64.wrap (x : Int) = l[k]) := ⟨by rw [wrap_i64_eq]; exact hwb.out⟩
     go_region_held3 (fun _ => True) (trivial) ((refine step_push rfl (.tmp 19) (.tmp 22) 318 rfl rdN elN (v := u6) (by rfl) (hown1.ext XE) (by rfl) (by exact heap_alloc_new w1 _) (y := l[k]) (by first | exact congrArg (fun t => [Value.int .i64 t]) hwb.out | exact congrArg (fun t => [Value.int .i64 t]) hwb2.out) (by have := HTL.out; omega) (by have := HTL.out; unfold maxLen; omega) (hE1.trans XE) ?_; intro v' w2 hown2 hg2 hE2))
     have hT := take_snoc l hkl
     rw [← hT] at hown2
     clear hT
     go_wp2
     go_roundw
     case rel => exact ⟨k + 1, A1, cb - 8, rest.drop 8, by go_num, by omega, by rw [List.length_drop], hS1, HR2, by rw [List.length_drop]; omega, hown2, hE2⟩
     case measure => simp [intOf] <;> omega
   · obtain rfl : k = n := by omega
     have hT : l.take k = l := List.take_of_length_le (by have := HLN.out; omega)
     rw [hT] at hown
     obtain ⟨A', c', rfl, hs⟩ := hown.shut hF
     go_wp2
     go_ret2
     exact ⟨A', c', rfl, hs, hE⟩
theorem zag_back (last x : Int) (hx : I64 x) (z : Nat) (hz : zig (wrap64 (x - last)) = z) : wrap64 (last + zag (z : Int)) = x := by
 rw [← hz, zag_zig]
 unfold I64 at hx; unfold wrap64; omega
theorem stepsC (F : Nat → Prop) (A : Option Addr) (c : Nat) (l r b : List Int) (n : Nat) (hln : l.length = n) (hb : b = dl 0 l ++ r) (w : World) (hA : rdU8.Sl F w A c b) (hn : n ≤ 2000) (hbl : b.length ≤ 10000000) (hl : ∀ x ∈ l, I64 x) (hF : ∀ k, F k → k < w.heap.size) :
   Calls Tryz.prog 415 #[.slice A b.length c, .int .i64 n] w fun e w' => ∃ A' c', e = .returned (.tuple #[.slice A' l.length c', .bool true]) ∧ rdN.Sl F w' A' c' l ∧ Ext w w' := by
 have HLN := As.mk hln
 have HB := As.mk hb
 clear hln hb
 go_enter Tryz.func415, Tryz.ntmps415
 go_wp2_with (fail)
 go_loopw [0, 6, 7, 8, 9, 11] (fun bv v y _ _ i wr => ∃ (k : Nat) (Ab : Option Addr) (cb : Nat) (rest : List Int) (last : Int), i = .int .i64 k ∧ k ≤ n ∧ bv = .slice Ab rest.length cb ∧ y = .int .i64 last ∧ rdU8.Sl F w Ab cb rest ∧ As (rest = dl last (l.drop k) ++ r) ∧ rest.length ≤ 10000000 ∧ rdN.Own F w.heap.size 2 wr v (l.take k) ∧ Ext w wr) (fun _ _ _ _ _ i _ => n - (intOf i).toNat)
 case atStart => exact ⟨0, A, c, b, 0, by go_num, Nat.zero_le _, rfl, rfl, hA, HB, hbl, Rd.Own.nil _ _ _ _ _, Ext.refl _⟩
 case round =>
   obtain ⟨k, Ab, cb, rest, last, rfl, hkn, rfl, rfl, hR, hrest, hrl, hown, hE⟩ := hrel
   by_cases hlt : k < n
   · have hkl : k < l.length := by have := HLN.out; omega
     obtain ⟨z, hz, hz1⟩ := zig_nat (l[k] - last)
     have hr1 := hrest.out
     rw [List.drop_eq_getElem_cons hkl, dl, hz, Int.toNat_natCast, List.append_assoc] at hr1
     have hzb := As.mk (zag_back last l[k] (hl l[k] (List.getElem_mem _)) z hz)
     have hp := pv_pos z
     have hp10 := pv_le10 z hz1
     have h8 : (pv z).length ≤ rest.length := by rw [hr1, List.length_append]; omega
     obtain ⟨A1, hsl1, hS1⟩ := hR.suf elU8 (pv z).length (rest.length - (pv z).length) ((pv z).length : Int) h8 rfl rfl
     have hr2 : rest.drop (pv z).length = dl l[k] (l.drop (k + 1)) ++ r := by rw [hr1]; exact List.drop_left' rfl
     have HTL : As ((l.take k).length ≤ 2000) := ⟨by rw [List.length_take]; omega⟩
     have HR1 := As.mk hr1
     have HR2 := As.mk hr2
     clear hr1 hr2
     have hp0 : (((pv z).length : Int) == 0) = false := beq_eq_false_iff_ne.mpr (by omega)
     go_wp2_with (fail)
     refine (varC F Ab cb z _ rest HR1.out wr hz1 (hR.ext hE) (by omega)).mono ?_; rintro e w1 ⟨rfl, hb1⟩
     have hown1 := hown.ext hb1
     have hE1 := hE.trans hb1
     go_wp2_with (fail)
     refine (zagC (z : Int) (by omega) (by omega) _).mono ?_; rintro e w' ⟨rfl, rfl⟩
     go_wp2_with (fail)
     rw [hzb.out]
     go_region_held3 (fun _ => True) (trivial) ((refine step_push rfl (.tmp 24) (.tmp 26) 318 rfl rdN elN (v := u6) (by rfl) (hown1.ext XE) (by rfl) (by exact heap_alloc_new w1 _) (y := l[k]) rfl (by have := HTL.out; omega) (by have := HTL.out; unfold maxLen; omega) (hE1.trans XE) ?_; intro v' w2 hown2 hg2 hE2))
     have hT := take_snoc l hkl
     rw [← hT] at hown2
     clear hT
     go_wp2
     go_roundw
     case rel => exact ⟨k + 1, A1, cb - (pv z).length, rest.drop (pv z).length, l[k], by go_num, by omega, by rw [List.length_drop], rfl, hS1, HR2, by rw [List.length_drop]; omega, hown2, hE2⟩
     case measure => simp [intOf] <;> omega
   · obtain rfl : k = n := by omega
     have hT : l.take k = l := List.take_of_length_le (by have := HLN.out; omega)
     rw [hT] at hown
     obtain ⟨A', c', rfl, hs⟩ := hown.shut hF
     go_wp2
     go_ret2
     exact ⟨A', c', rfl, hs, hE⟩
theorem takeIC (F : Nat → Prop) (A : Option Addr) (c : Nat) (l b : List Int) (hb : b = putI l) (w : World) (hA : rdU8.Sl F w A c b) (hn : l.length ≤ 2000) (hl : ∀ x ∈ l, I64 x) (hF : ∀ k, F k → k < w.heap.size) :
   Calls Tryz.prog 393 #[.slice A b.length c] w fun e w' => ∃ A' c', e = .returned (.tuple #[.slice A' l.length c', .int .i64 0]) ∧ rdN.Sl F w' A' c' l ∧ Ext w w' := by
 have hbl := putI_length_le l (by omega)
 rw [← hb] at hbl
 have hp1 := pv_pos l.length
 have hp10 := pv_le10 l.length (by omega)
 have hd2 : decide ((2000 : Int) < (l.length : Int)) = false := decide_eq_false (by omega)
 have hp0 : (((pv l.length).length : Int) == 0) = false := beq_eq_false_iff_ne.mpr (by omega)
 have hf8 := fx_length l
 have HP := As.mk hb
 by_cases h : 8 * l.length ≤ (dl 0 l).length
 · have hput := putI_fx h
   rw [← hb] at hput
   have hbl2 := congrArg List.length hput
   simp only [List.length_append, List.length_singleton] at hbl2
   have hv : b = pv l.length ++ ([0] ++ fx l) := by rw [hput, List.append_assoc]
   have hpb : (pv l.length).length < b.length := by omega
   have hget : b[(pv l.length).length]'hpb = 0 := by simp [hv]
   obtain ⟨A1, hsl1, hS1⟩ := hA.suf elU8 ((pv l.length).length + 1) (fx l).length (((pv l.length).length : Int) + 1) (by omega) (by omega) (by omega)
   have hdr : b.drop ((pv l.length).length + 1) = fx l := by rw [hput]; exact List.drop_left' (by simp)
   rw [hdr] at hS1
   have HV := As.mk hv
   have HG := As.mk hget
   have hlt3 : decide ((b.length : Int) ≤ ((pv l.length).length : Int)) = false := decide_eq_false (by omega)
   have hff : (fx l).length ≤ 1000000 := by omega
   clear hput hbl2 hv hget hdr hb hf8 h
   have hi1 : (0 : Int) ≤ ((pv l.length).length : Int) + 1 := by omega
   go_enter Tryz.func393, Tryz.ntmps393
   go_wp2_with (fail)
   refine (varC F A c l.length _ b HV.out w (by omega) hA (by omega)).mono ?_; rintro e w1 ⟨rfl, hb1⟩
   obtain ⟨b0, o0, hA0, hc⟩ := int_get (hA.ext hb1) hpb
   rw [HG.out] at hc
   rw [hA0]
   rw [hA0] at hsl1 hA
   generalize hP : (pv l.length).length = p at *
   replace hP := As.mk hP
   go_wp2_with (fail)
   refine (wideC F A1 _ l [] _ l.length rfl (by simp) w1 (hS1.ext hb1) hn (by omega) hl (fun k hk => Nat.lt_of_lt_of_le (hF k hk) hb1.size)).mono ?_; rintro e w2 ⟨A2, c2, rfl, h2, hb2⟩
   have hE2 := hb1.trans hb2
   go_wp2_with (fail)
   refine (putIC F A2 c2 l w2 h2 (by omega) (fun k hk => Nat.lt_of_lt_of_le (hF k hk) hE2.size)).mono ?_; rintro e w3 ⟨A3, c3, rfl, h3, hb3⟩
   have hE3 := hE2.trans hb3
   rw [← HP.out] at h3 ⊢
   go_wp2_with (fail)
   refine (bytesEqC F A3 _ c3 c b _ h3 (hA.ext hE3)).mono ?_; rintro e w4 ⟨rfl, rfl⟩
   go_wp2
   go_ret2
   exact ⟨A2, c2, rfl, h2.ext hb3, hE3⟩
 · have hput := putI_dl h
   rw [← hb] at hput
   have hbl2 := congrArg List.length hput
   simp only [List.length_append, List.length_singleton] at hbl2
   have hv : b = pv l.length ++ ([1] ++ dl 0 l) := by rw [hput, List.append_assoc]
   have hpb : (pv l.length).length < b.length := by omega
   have hget : b[(pv l.length).length]'hpb = 1 := by simp [hv]
   obtain ⟨A1, hsl1, hS1⟩ := hA.suf elU8 ((pv l.length).length + 1) (dl 0 l).length (((pv l.length).length : Int) + 1) (by omega) (by omega) (by omega)
   have hdr : b.drop ((pv l.length).length + 1) = dl 0 l := by rw [hput]; exact List.drop_left' (by simp)
   rw [hdr] at hS1
   have HV := As.mk hv
   have HG := As.mk hget
   have hlt3 : decide ((b.length : Int) ≤ ((pv l.length).length : Int)) = false := decide_eq_false (by omega)
   have hff : (dl 0 l).length ≤ 1000000 := by omega
   clear hput hbl2 hv hget hdr hb hf8 h
   have hi1 : (0 : Int) ≤ ((pv l.length).length : Int) + 1 := by omega
   go_enter Tryz.func393, Tryz.ntmps393
   go_wp2_with (fail)
   refine (varC F A c l.length _ b HV.out w (by omega) hA (by omega)).mono ?_; rintro e w1 ⟨rfl, hb1⟩
   obtain ⟨b0, o0, hA0, hc⟩ := int_get (hA.ext hb1) hpb
   rw [HG.out] at hc
   rw [hA0]
   rw [hA0] at hsl1 hA
   generalize hP : (pv l.length).length = p at *
   replace hP := As.mk hP
   go_wp2_with (fail)
   refine (stepsC F A1 _ l [] _ l.length rfl (by simp) w1 (hS1.ext hb1) hn (by omega) hl (fun k hk => Nat.lt_of_lt_of_le (hF k hk) hb1.size)).mono ?_; rintro e w2 ⟨A2, c2, rfl, h2, hb2⟩
   have hE2 := hb1.trans hb2
   go_wp2_with (fail)
   refine (putIC F A2 c2 l w2 h2 (by omega) (fun k hk => Nat.lt_of_lt_of_le (hF k hk) hE2.size)).mono ?_; rintro e w3 ⟨A3, c3, rfl, h3, hb3⟩
   have hE3 := hE2.trans hb3
   rw [← HP.out] at h3 ⊢
   go_wp2_with (fail)
   refine (bytesEqC F A3 _ c3 c b _ h3 (hA.ext hE3)).mono ?_; rintro e w4 ⟨rfl, rfl⟩
   go_wp2
   go_ret2
   exact ⟨A2, c2, rfl, h2.ext hb3, hE3⟩
end K11
namespace K15
open Go Go.RowKit
open KB KB2 K1 K2 K3 K6 K7 K8 K9 K10 K11 Num Bits NV
theorem kindC (t : Int) (ht : 1 ≤ t ∧ t ≤ 3) (w : World) : Calls Tryz.prog 233 #[.int .i64 t] w fun e w' => e = .returned (.bool true) ∧ w = w' := by
 have h1 : decide ((1 : Int) ≤ t) = true := decide_eq_true ht.1
 have h2 : decide (t ≤ 3) = true := decide_eq_true ht.2
 go_enter Tryz.func233, Tryz.ntmps233
 go_wp2
 go_ret
 simp
def Col (t : Int) : Prop := t = 1 ∨ t = 2
theorem Col.r {t : Int} (h : Col t) : 1 ≤ t ∧ t ≤ 3 := by rcases h with rfl | rfl <;> decide
theorem oddPut (sb : Nat) (t : Int) (v : Val) (hv : ValOk t v) (w : World) (hB : w.cell? ⟨sb, 0, none⟩ = some (.int .i64 t)) :
   Calls Tryz.prog 232 #[valV v, .pointer (some ⟨sb, 0, none⟩)] w fun e w' => e = .returned (.bool false) ∧ Ext w w' := by
 have hsb := World.block_lt_of_cell? w _ hB
 go_enter Tryz.func232, Tryz.ntmps232
 go_wp2_with (fail)
 refine (fits t v hv _).mono ?_; rintro e w1 ⟨rfl, hb⟩
 go_wp2
 go_ret
 exact ⟨rfl, ((Ext.refl w).alloc _).trans hb⟩
theorem idxVal (F : Nat → Prop) (A : Option Addr) (c : Nat) (l : List Val) (fn : Nat) (caps : Array Value) (w : World) (hA : rdVal.Sl F w A c l) (hn : l.length ≤ 1000000) (hen : IsFn fn)
   (hf : ∀ W k (hk : k < l.length), Ext w W → Calls Tryz.prog fn (#[valV l[k]] ++ caps) W fun e w' => e = .returned (.bool false) ∧ Ext W w') :
   Calls Tryz.prog 307 #[.slice A l.length c, .func (.func fn) #[] caps] w fun e w' => e = .returned (.int .i64 (-1)) ∧ Ext w w' := by
 go_enter Tryz.func307, Tryz.ntmps307
 go_wp2_with (fail)
 go_loopw [5, 8] (fun _ i wr => ∃ k : Nat, i = .int .i64 k ∧ k ≤ l.length ∧ Ext w wr) (fun _ i _ => l.length - (intOf i).toNat)
 case atStart => exact ⟨0, by go_num, Nat.zero_le _, Ext.refl _⟩
 case round =>
   obtain ⟨k, rfl, hkl, hE⟩ := hrel
   by_cases hlt : k < l.length
   · obtain ⟨b, o, rfl, hc1, hc2⟩ := val_get (hA.ext hE) hlt
     have hent := hen (#[valV l[k]] ++ caps)
     go_wp2_with (fail)
     refine (hf wr k hlt hE).mono ?_; rintro e w1 ⟨rfl, hb⟩
     go_wp2
     go_roundw
     case rel => exact ⟨k + 1, by go_num, by omega, hE.trans hb⟩
     case measure => simp [intOf]; omega
   · go_wp2
     go_ret
     exact ⟨rfl, hE⟩
theorem hasVal (F : Nat → Prop) (A : Option Addr) (c : Nat) (l : List Val) (fn : Nat) (caps : Array Value) (w : World) (hA : rdVal.Sl F w A c l) (hn : l.length ≤ 1000000) (hen : IsFn fn)
   (hf : ∀ W k (hk : k < l.length), Ext w W → Calls Tryz.prog fn (#[valV l[k]] ++ caps) W fun e w' => e = .returned (.bool false) ∧ Ext W w') :
   Calls Tryz.prog 234 #[.slice A l.length c, .func (.func fn) #[] caps] w fun e w' => e = .returned (.bool false) ∧ Ext w w' := by
 go_enter Tryz.func234, Tryz.ntmps234
 go_wp2_with (fail)
 refine (idxVal F A c l fn caps w hA hn hen hf).mono ?_; rintro e w1 ⟨rfl, hb⟩
 go_wp2
 go_ret
 exact ⟨rfl, hb⟩
theorem put3C (v : Val) (w : World) : Calls Tryz.prog 240 #[valV v] w fun e w' => e = .returned (.int .i64 v.1) ∧ Ext w w' := by
 go_enter Tryz.func240, Tryz.ntmps240
 go_wp2
 go_ret
 exact ⟨rfl, (Ext.refl w).alloc _⟩
theorem read2C (n : Int) (w : World) : Calls Tryz.prog 395 #[.int .i64 n] w fun e w' => e = .returned (valV (n, emp)) ∧ Ext w w' := by
 have B := bN w (.cells #[.int .i64 n, .string ⟨#[]⟩] 33)
 have e0 := bC B 0
 have e1 := bC B 1
 clear B
 go_enter Tryz.func395, Tryz.ntmps395
 go_wp2_with (fail)
 refine bodyPost_ret (v := valV (n, emp)) (by simp [results, Tryz.results395, go_sem, e0, e1, valV, emp]) rfl ?_
 exact ⟨rfl, (Ext.refl w).alloc _⟩
theorem eachNC (F : Nat → Prop) (A : Option Addr) (c : Nat) (l : List Val) (w : World) (hA : rdVal.Sl F w A c l) (hn : l.length ≤ 1000000) (hF : ∀ k, F k → k < w.heap.size) :
   Calls Tryz.prog 239 #[.slice A l.length c, .func (.func 240) #[] #[]] w fun e w' => ∃ A' c', e = .returned (.slice A' l.length c') ∧ rdN.Sl F w' A' c' (l.map (fun v => v.1)) ∧ Ext w w' := by
 have hml : (l.map (fun v => v.1)).length = l.length := List.length_map _
 go_enter Tryz.func239, Tryz.ntmps239
 go_wp2_with (fail)
 go_loopw [5, 10] (fun v i wr => ∃ k : Nat, i = .int .i64 k ∧ k ≤ l.length ∧ rdN.Own F w.heap.size 2 wr v ((l.map (fun v => v.1)).take k) ∧ Ext w wr) (fun _ i _ => l.length - (intOf i).toNat)
 case atStart => exact ⟨0, by go_num, Nat.zero_le _, Rd.Own.nil _ _ _ _ _, Ext.refl _⟩
 case round =>
   obtain ⟨k, rfl, hkl, hown, hE⟩ := hrel
   by_cases hlt : k < l.length
   · obtain ⟨b, o, rfl, hc1, hc2⟩ := val_get (hA.ext hE) hlt
     have HT := As.mk (take_snoc (l.map (fun v => v.1)) (k := k) (by omega))
     rw [List.getElem_map] at HT
     have HTL : As (((l.map (fun v => v.1)).take k).length ≤ 1000000) := ⟨by rw [List.length_take]; omega⟩
     go_wp2_with (fail)
     refine (put3C _ _).mono ?_; rintro e w1 ⟨rfl, hb⟩
     replace hb : Ext wr w1 := Ext.trans XE hb
     go_wp2_with (first | (at_builtin; refine wpList_push rfl _ _ _ rfl rdN elN rfl (hown.ext (hb.alloc _)) rfl (heap_alloc_new w1 _) (y := (fun v => v.1) l[k]) (by rfl) (by have := HTL.out; omega) (by have := HTL.out; unfold maxLen; omega) (by have := (hE.trans hb).size; simp; omega) ((hE.trans hb).alloc _) ?_; intro v' w2 hown2 hg2 hE2))
     rw [← HT.out] at hown2
     go_roundw
     case rel => exact ⟨k + 1, by go_num, by omega, hown2, hE2⟩
     case measure => simp [intOf] <;> omega
   · obtain rfl : k = l.length := by omega
     rw [List.take_of_length_le (by omega)] at hown
     obtain ⟨A', c', rfl, hs⟩ := hown.shut hF
     rw [hml]
     go_wp2
     go_ret
     exact ⟨A', c', rfl, hs, hE⟩
theorem eachVC (F : Nat → Prop) (A : Option Addr) (c : Nat) (l : List Int) (w : World) (hA : rdN.Sl F w A c l) (hn : l.length ≤ 1000000) (hF : ∀ k, F k → k < w.heap.size) :
   Calls Tryz.prog 394 #[.slice A l.length c, .func (.func 395) #[] #[]] w fun e w' => ∃ A' c', e = .returned (.slice A' l.length c') ∧ rdVal.Sl F w' A' c' (l.map (fun n => (n, emp))) ∧ Ext w w' := by
 have hml : (l.map (fun n => (n, emp))).length = l.length := List.length_map _
 go_enter Tryz.func394, Tryz.ntmps394
 go_wp2_with (fail)
 go_loopw [5, 10] (fun v i wr => ∃ k : Nat, i = .int .i64 k ∧ k ≤ l.length ∧ rdVal.Own F w.heap.size 33 wr v ((l.map (fun n => (n, emp))).take k) ∧ Ext w wr) (fun _ i _ => l.length - (intOf i).toNat)
 case atStart => exact ⟨0, by go_num, Nat.zero_le _, Rd.Own.nil _ _ _ _ _, Ext.refl _⟩
 case round =>
   obtain ⟨k, rfl, hkl, hown, hE⟩ := hrel
   by_cases hlt : k < l.length
   · obtain ⟨b, o, rfl, hc1⟩ := int_get (hA.ext hE) hlt
     have HT := As.mk (take_snoc (l.map (fun n => (n, emp))) (k := k) (by omega))
     rw [List.getElem_map] at HT
     have HTL : As (((l.map (fun n => (n, emp))).take k).length ≤ 1000000) := ⟨by rw [List.length_take]; omega⟩
     go_wp2_with (fail)
     refine (read2C _ _).mono ?_; rintro e w1 ⟨rfl, hb⟩
     replace hb : Ext wr w1 := Ext.trans XE hb
     go_wp2_with (first | (at_builtin; refine wpList_push rfl _ _ _ rfl rdVal elVal rfl (hown.ext (hb.alloc _)) rfl (heap_alloc_new w1 _) (y := (fun n => (n, emp)) l[k]) (by rfl) (by have := HTL.out; omega) (by have := HTL.out; unfold maxLen; omega) (by have := (hE.trans hb).size; simp; omega) ((hE.trans hb).alloc _) ?_; intro v' w2 hown2 hg2 hE2))
     rw [← HT.out] at hown2
     go_roundw
     case rel => exact ⟨k + 1, by go_num, by omega, hown2, hE2⟩
     case measure => simp [intOf] <;> omega
   · obtain rfl : k = l.length := by omega
     rw [List.take_of_length_le (by omega)] at hown
     obtain ⟨A', c', rfl, hs⟩ := hown.shut hF
     rw [hml]
     go_wp2
     go_ret
     exact ⟨A', c', rfl, hs, hE⟩
def putB (t : Int) (l : List Val) : List Int := frame (t :: putI (l.map (·.1)))
theorem putBC (F : Nat → Prop) (t : Int) (ht : Col t) (A : Option Addr) (c : Nat) (l : List Val) (w : World) (hA : rdVal.Sl F w A c l) (hn : l.length ≤ 2000) (hv : ∀ v ∈ l, ValOk t v) (hF : ∀ k, F k → k < w.heap.size) :
   Calls Tryz.prog 132 #[.int .i64 t, .slice A l.length c] w fun e w' => ∃ A' c', e = .returned (.tuple #[.slice A' (putB t l).length c', .bool true]) ∧ rdU8.Sl F w' A' c' (putB t l) ∧ Ext w w' := by
 have hbx := bN w (.cells #[.int .i64 t] 3)
 have hEb := (Ext.refl w).alloc (.cells #[.int .i64 t] 3)
 have hFb := FExt hF hEb
 have d1 : decide ((2000 : Int) < (l.length : Int)) = false := decide_eq_false (by omega)
 have ht3 : (t == 3) = false := beq_eq_false_iff_ne.mpr (by rcases ht with rfl | rfl <;> decide)
 have htu : IntKind.u8.wrap t = t := by rcases ht with rfl | rfl <;> rfl
 have c0 := bC hbx 0
 go_enter Tryz.func132, Tryz.ntmps132
 go_wp2_with (fail)
 generalize (w.alloc (.cells #[.int .i64 t] 3)) = wb at *
 refine (kindC t ht.r _).mono ?_; rintro e w' ⟨rfl, rfl⟩
 go_wp2_with (fail)
 refine (hasVal F A c l 232 #[.pointer (some ⟨w.heap.size, 0, none⟩)] wb (hA.ext hEb) (by omega) (fun _ _ => rfl) (fun W k hk hW => oddPut _ t _ (hv _ (List.getElem_mem hk)) W (hW.cell c0))).mono ?_; rintro e w1 ⟨rfl, hE1⟩
 have c1 := hE1.cell c0
 have hE2 := hEb.trans hE1
 go_wp2_with (fail)
 refine (eachNC F A c l w1 (hA.ext hE2) (by omega) (FExt hF hE2)).mono ?_; rintro e w2 ⟨A2, c2, rfl, hs2, hE3⟩
 have hml : (l.map (·.1)).length = l.length := List.length_map _
 have HML := As.mk hml
 have hpc := putIC F A2 c2 (l.map (·.1)) w2 hs2 (by rw [hml]; omega) (FExt hF (hE2.trans hE3))
 have hpl := putI_length_le (l.map (·.1)) (by rw [hml]; omega)
 rw [hml] at hpc hpl
 clear hml
 have c2' := hE3.cell c1
 go_wp2_with (fail)
 refine hpc.mono ?_; rintro e w3 ⟨A3, c3, rfl, hs3, hE4⟩
 have c3' := hE4.cell c2'
 have hE5 := (hE2.trans hE3).trans hE4
 go_wp2_with (fail)
 have hFw3 := FExt hF hE5
 generalize hQ : putI (l.map (·.1)) = Q at *
 have HQ := As.mk hQ
 clear hQ
 have l1 : rdU8.Sl F (w3.alloc (.cells #[.int .u8 t] 5)) (some ⟨w3.heap.size, 0, none⟩) 1 [t] := int_lit (l := [t]) (bN w3 _) (fun h => by have := hFw3 _ h; omega) rfl (by simp [maxLen])
 have l2 := hs3.ext ((Ext.refl w3).alloc (.cells #[.int .u8 t] 5))
 have hE6 := hE5.alloc (.cells #[.int .u8 t] 5)
 have hsz : (w3.alloc (.cells #[.int .u8 t] 5)).heap.size = w3.heap.size + 1 := by simp
 generalize (w3.alloc (.cells #[.int .u8 t] 5)) = w4 at *
 have l3 : (rdSl rdU8 Nat.one_pos).Sl F (w4.alloc (.cells #[.slice (some ⟨w3.heap.size, 0, none⟩) 1 1, .slice A3 Q.length c3] 120)) (some ⟨w3.heap.size + 1, 0, none⟩) 2 [[t], Q] := by
   rw [← hsz]
   refine lit_one rfl (bN _ _) (fun h => by have := hFw3 _ h; omega) rfl (by simp [maxLen]) (fun k x hk => ?_)
   match k, hk with
   | 0, hk => cases hk; exact ⟨_, rfl, _, _, rfl, l1.ext ((Ext.refl _).alloc _)⟩
   | 1, hk => cases hk; exact ⟨_, rfl, _, _, rfl, l2.ext ((Ext.refl _).alloc _)⟩
   | k + 2, hk => simp at hk
 refine (concatB F _ _ _ (t :: Q) (by simp) _ l3 (by simp) (by simp; omega) (FExt hF (hE6.alloc _))).mono ?_
 rintro e w5 ⟨A5, c5, rfl, hs5, hE7⟩
 have hE8 := (hE6.alloc _).trans hE7
 go_wp2_with (fail)
 refine (frameC F A5 c5 (t :: Q) w5 hs5 (by simp; omega) (FExt hF hE8)).mono ?_
 rintro e w6 ⟨A6, c6, rfl, hs6, hE9⟩
 have hpb : putB t l = frame (t :: Q) := by rw [putB, HQ.out]
 go_wp2
 go_ret2
 exact ⟨A6, c6, by rw [hpb]; rfl, by rw [hpb]; exact hs6, hE8.trans hE9⟩
theorem readBC (F : Nat → Prop) (t : Int) (ht : Col t) (A : Option Addr) (c : Nat) (l : List Val) (b : List Int) (hb : b = putI (l.map (·.1))) (w : World) (hA : rdU8.Sl F w A c b) (hn : l.length ≤ 2000) (hv : ∀ v ∈ l, ValOk t v) (hF : ∀ k, F k → k < w.heap.size) :
   Calls Tryz.prog 352 #[.int .i64 t, .slice A b.length c] w fun e w' => ∃ A' c', e = .returned (.tuple #[.slice A' l.length c', .int .i64 0]) ∧ rdVal.Sl F w' A' c' l ∧ Ext w w' := by
 have ht3 : (t == 3) = false := beq_eq_false_iff_ne.mpr (by rcases ht with rfl | rfl <;> decide)
 have hml : (l.map (·.1)).length = l.length := List.length_map _
 have htk := takeIC F A c (l.map (·.1)) b hb w hA (by rw [hml]; exact hn) (fun x hx => by obtain ⟨v, hv', rfl⟩ := List.mem_map.1 hx; exact (hv v hv').1) hF
 rw [hml] at htk
 have hback : (l.map (·.1)).map (fun n => ((n, emp) : Val)) = l := by
   rw [List.map_map]
   conv => rhs; rw [← List.map_id l]
   refine List.map_congr_left (fun v hv' => ?_)
   have h2 : v.2 = emp := by
     rcases (hv v hv').2 with h | h
     · exact h.2
     · rcases ht with rfl | rfl <;> exact absurd h.1 (by decide)
   show (v.1, emp) = v
   rw [← h2]
 clear hb
 go_enter Tryz.func352, Tryz.ntmps352
 go_wp2_with (fail)
 refine htk.mono ?_; rintro e w1 ⟨A1, c1, rfl, hs1, hE1⟩
 go_wp2_with (fail)
 have hev := eachVC F A1 c1 (l.map (·.1)) w1 hs1 (by rw [hml]; omega) (FExt hF hE1)
 rw [hml, hback] at hev
 refine hev.mono ?_; rintro e w2 ⟨A2, c2, rfl, hs2, hE2⟩
 go_wp2
 go_ret2
 exact ⟨A2, c2, rfl, hs2, hE1.trans hE2⟩
theorem takeBC (F : Nat → Prop) (t : Int) (ht : Col t) (A : Option Addr) (c : Nat) (l : List Val) (r b : List Int) (hb : b = putB t l ++ r) (w : World) (hA : rdU8.Sl F w A c b) (hn : l.length ≤ 2000) (hbl : b.length ≤ 10000000) (hv : ∀ v ∈ l, ValOk t v) (hF : ∀ k, F k → k < w.heap.size) :
   Calls Tryz.prog 319 #[.int .i64 t, .slice A b.length c] w fun e w' => ∃ A' c', e = .returned (.tuple #[.slice A' l.length c', .int .i64 (putB t l).length, .int .i64 0]) ∧ rdVal.Sl F w' A' c' l ∧ Ext w w' := by
 have hpl := putI_length_le (l.map (·.1)) (by rw [List.length_map]; omega)
 rw [List.length_map] at hpl
 have hfr : putB t l = frame (t :: putI (l.map (·.1))) := rfl
 rw [hfr] at hb
 rw [hfr]
 generalize hQ : putI (l.map (·.1)) = Q at *
 have HQ := As.mk hQ.symm
 have HB := As.mk hb
 clear hQ hb hfr
 have htu : IntKind.i64.wrap t = t := by rcases ht with rfl | rfl <;> rfl
 go_enter Tryz.func319, Tryz.ntmps319
 go_wp2_with (fail)
 refine (unframeC F A c (t :: Q) r b HB.out w hA (by simp; omega) hbl hF).mono ?_
 rintro e w1 ⟨A1, c1, rfl, hs1, hE1⟩
 obtain ⟨b1, o1, rfl, hc0⟩ := int_get hs1 (k := 0) (by simp)
 obtain ⟨A2, hsl, hS2⟩ := hs1.suf elU8 1 Q.length 1 (by simp) rfl (by simp)
 rw [List.length_cons] at hsl
 rw [List.getElem_cons_zero, Nat.add_zero] at hc0
 rw [List.drop_one, List.tail_cons] at hS2
 have hq0 : ((Q.length : Int) + 1 == 0) = false := beq_eq_false_iff_ne.mpr (by omega)
 go_wp2_with (fail)
 refine (kindC t ht.r _).mono ?_; rintro e w' ⟨rfl, rfl⟩
 go_wp2_with (fail)
 refine (readBC F t ht A2 (c1 - 1) l Q HQ.out w1 hS2 hn hv (FExt hF hE1)).mono ?_
 rintro e w2 ⟨A3, c3, rfl, hs3, hE2⟩
 go_wp2
 go_ret3
 exact ⟨A3, c3, rfl, hs3, hE1.trans hE2⟩
theorem putB_length (t : Int) (l : List Val) (hl : l.length ≤ 100000) : (putB t l).length ≤ 8 * l.length + 26 := by
 have h1 := putI_length_le (l.map (·.1)) (by rw [List.length_map]; omega)
 rw [List.length_map] at h1
 have h2 := pv_le10 (t :: putI (l.map (·.1))).length (by simp; omega)
 rw [putB, frame_length, List.length_cons]
 rw [List.length_cons] at h2
 omega
end K15
namespace K14
open Go Go.RowKit
open KB KB2 K1 K3 K6 K7 Num Bits NV
def nums (s : Sch) : List Int := (s.types.length : Int) :: (s.types ++ [(s.keys : Int), (s.mode : Int), (s.grain : Int)])
def putN (l : List Int) : List Int := (l.map fun n => pv n.toNat).flatten
def putSch (s : Sch) : List Int := putN (nums s)
theorem putN_snoc (l : List Int) (n : Int) : putN (l ++ [n]) = putN l ++ pv n.toNat := by simp [putN]
theorem putN_cons (l : List Int) (n : Int) : putN (n :: l) = pv n.toNat ++ putN l := by simp [putN]
theorem nums_small {s : Sch} (hs : s.Ok) : ∀ n ∈ nums s, 0 ≤ n ∧ n ≤ 64 := by
 obtain ⟨h1, h2, h3, h4, h5, h6, h7, h8, h9⟩ := hs
 intro n hn
 simp only [nums, List.mem_cons, List.mem_append, List.not_mem_nil, or_false] at hn
 rcases hn with rfl | hn | rfl | rfl | rfl
 · omega
 · have := h3 n hn; omega
 all_goals omega
theorem putN_length : ∀ l : List Int, (∀ n ∈ l, 0 ≤ n ∧ n ≤ 64) → (putN l).length = l.length := by
 intro l
 induction l with
 | nil => intro _; rfl
 | cons n l ih =>
   intro h
   have h1 := h n (List.mem_cons_self ..)
   rw [putN_cons, List.length_append, ih (fun m hm => h m (List.mem_cons_of_mem _ hm)), pv_small (by omega), List.length_cons]
   simp; omega
theorem nums_length (s : Sch) : (nums s).length = s.types.length + 4 := by simp [nums]
theorem putSC (F : Nat → Prop) (A : Option Addr) (c : Nat) (s : Sch) (w : World) (hA : SchAt F w A c s) (hs : s.Ok) (hF : ∀ k, F k → k < w.heap.size) :
   Calls Tryz.prog 129 #[schV A c s] w fun e w' => ∃ A' c', e = .returned (.slice A' (putSch s).length c') ∧ rdU8.Sl F w' A' c' (putSch s) ∧ Ext w w' := by
 have HSM := As.mk (nums_small hs)
 have HNL := As.mk (nums_length s)
 have hn2 := hs.n2
 have hk : s.keys ≤ 64 := Nat.le_trans hs.k2 hs.n2
 have hm := hs.m2
 have hg := hs.g2
 go_enter Tryz.func129, Tryz.ntmps129
 go_wp2_with (fail)
 have hE1 := (((Ext.refl w).alloc (.cells #[.slice A s.types.length c, .int .i64 s.keys, .int .i64 s.mode, .int .i64 s.grain] 27)).alloc (.cells #[.int .i64 s.types.length] 3)).alloc (.cells #[.int .i64 s.keys, .int .i64 s.mode, .int .i64 s.grain] 3)
 have hx1 := bO2 (o' := .cells #[.int .i64 s.keys, .int .i64 s.mode, .int .i64 s.grain] 3) (bN (w.alloc (.cells #[.slice A s.types.length c, .int .i64 s.keys, .int .i64 s.mode, .int .i64 s.grain] 27)) (.cells #[.int .i64 s.types.length] 3))
 have hx2 := bN ((w.alloc (.cells #[.slice A s.types.length c, .int .i64 s.keys, .int .i64 s.mode, .int .i64 s.grain] 27)).alloc (.cells #[.int .i64 s.types.length] 3)) (.cells #[.int .i64 s.keys, .int .i64 s.mode, .int .i64 s.grain] 3)
 have hsz : (((w.alloc (.cells #[.slice A s.types.length c, .int .i64 s.keys, .int .i64 s.mode, .int .i64 s.grain] 27)).alloc (.cells #[.int .i64 s.types.length] 3)).alloc (.cells #[.int .i64 s.keys, .int .i64 s.mode, .int .i64 s.grain] 3)).heap.size = w.heap.size + 1 + 1 + 1 := by simp
 simp only [World.size_alloc] at hx1 hx2
 generalize (((w.alloc (.cells #[.slice A s.types.length c, .int .i64 s.keys, .int .i64 s.mode, .int .i64 s.grain] 27)).alloc (.cells #[.int .i64 s.types.length] 3)).alloc (.cells #[.int .i64 s.keys, .int .i64 s.mode, .int .i64 s.grain] 3)) = wa at *
 have l1 : (rdInt .i64).Sl F wa (some ⟨w.heap.size + 1, 0, none⟩) 1 [(s.types.length : Int)] := int_lit (l := [(s.types.length : Int)]) hx1 (fun h => by have := hF _ h; omega) rfl (by simp [maxLen])
 have l2 : (rdInt .i64).Sl F wa (some ⟨w.heap.size + 1 + 1, 0, none⟩) 3 [(s.keys : Int), (s.mode : Int), (s.grain : Int)] := int_lit (l := [(s.keys : Int), (s.mode : Int), (s.grain : Int)]) hx2 (fun h => by have := hF _ h; omega) rfl (by simp [maxLen])
 have l3 : (rdSl (rdInt .i64) Nat.one_pos).Sl F (wa.alloc (.cells #[.slice (some ⟨w.heap.size + 1, 0, none⟩) 1 1, .slice A s.types.length c, .slice (some ⟨w.heap.size + 1 + 1, 0, none⟩) 3 3] 25)) (some ⟨w.heap.size + 1 + 1 + 1, 0, none⟩) 3 [[(s.types.length : Int)], s.types, [(s.keys : Int), (s.mode : Int), (s.grain : Int)]] := by
   rw [← hsz]
   refine lit_one rfl (bN _ _) (fun h => by have := hF _ h; omega) rfl (by simp [maxLen]) (fun k x hk => ?_)
   match k, hk with
   | 0, hk => cases hk; exact ⟨_, rfl, _, _, rfl, l1.ext ((Ext.refl _).alloc _)⟩
   | 1, hk => cases hk; exact ⟨_, rfl, _, _, rfl, Rd.Sl.ext hA (hE1.alloc _)⟩
   | 2, hk => cases hk; exact ⟨_, rfl, _, _, rfl, l2.ext ((Ext.refl _).alloc _)⟩
   | k + 3, hk => simp at hk
 refine (concatI F _ _ _ (nums s) (by simp [nums]) _ l3 (by simp) (by rw [HNL.out]; omega) (FExt hF (hE1.alloc _))).mono ?_
 rintro e w1 ⟨A1, c1, rfl, hs1, hE2⟩
 replace hE2 := (hE1.alloc _).trans hE2
 have hnl : (nums s).length ≤ 68 := by rw [HNL.out]; omega
 generalize hN : nums s = N at *
 go_wp2_with (fail)
 go_loopw [3, 22] (fun v i wr => ∃ k : Nat, i = .int .i64 k ∧ k ≤ N.length ∧ rdU8.Own F w1.heap.size 5 wr v (putN (N.take k)) ∧ Ext w1 wr) (fun _ i _ => N.length - (intOf i).toNat)
 case atStart => exact ⟨0, by go_num, Nat.zero_le _, Rd.Own.nil _ _ _ _ _, Ext.refl _⟩
 case round =>
   obtain ⟨k, rfl, hkl, hown, hE⟩ := hrel
   by_cases hlt : k < N.length
   · obtain ⟨b, o, rfl, hc⟩ := int_get (hs1.ext hE) hlt
     obtain ⟨h0, h64⟩ := HSM.out _ (List.getElem_mem hlt)
     obtain ⟨x, hx⟩ : ∃ x : Nat, N[k] = x := ⟨N[k].toNat, by omega⟩
     have hst : putN (N.take (k + 1)) = putN (N.take k) ++ pv x := by rw [take_snoc _ hlt, putN_snoc, hx]; rfl
     have HST := As.mk hst
     rw [hx] at hc h0 h64
     clear hst
     go_wp2_with (fail)
     refine (putVar (Fv F u3) x (by omega) wr (FvF hown (FExt hF (hE2.trans hE)))).mono ?_
     rintro e w2 ⟨A2, c2, rfl, h1, hb1⟩
     have hl1 : (putN (N.take k)).length ≤ 68 := by rw [putN_length _ (fun n hn => HSM.out n (List.mem_of_mem_take hn)), List.length_take]; omega
     have hl2 := pv_le10 x (by omega)
     go_wp2_with (first | (at_builtin; refine wpList_app rfl _ _ _ rfl rdU8 elU8 rfl (hown.ext hb1) rfl rfl h1 (by omega) (by unfold maxLen; omega) (hE.trans hb1).size (hE.trans hb1) ?_; intro v' w3 hown3 hg3 hE3))
     rw [← HST.out] at hown3
     go_roundw
     case rel => exact ⟨k + 1, by go_num, by omega, hown3, hE3⟩
     case measure => simp [intOf] <;> omega
   · obtain rfl : k = N.length := by omega
     rw [List.take_length] at hown
     obtain ⟨A', c', rfl, hs'⟩ := hown.shut (FExt hF hE2)
     go_wp2
     go_ret
     exact ⟨A', c', by rw [putSch, hN]; rfl, by rw [putSch, hN]; exact hs', hE2.trans hE⟩
def lenOf : Value → Nat | .slice _ n _ => n | _ => 0
theorem takeSC (F : Nat → Prop) (A : Option Addr) (c : Nat) (s : Sch) (w : World) (l : List Int) (hl : l = putSch s) (hA : rdU8.Sl F w A c l) (hs : s.Ok) (hF : ∀ k, F k → k < w.heap.size) :
   Calls Tryz.prog 159 #[.slice A l.length c] w fun e w' => ∃ A' c', e = .returned (.tuple #[schV A' c' s, .int .i64 0]) ∧ SchAt F w' A' c' s ∧ Ext w w' := by
 have HSM := As.mk (nums_small hs)
 have HNL := As.mk (nums_length s)
 go_enter Tryz.func159, Tryz.ntmps159
 go_wp2_with (fail)
 generalize hN : nums s = N at *
 have hLN : l = putN N := by rw [hl, putSch, hN]
 have hll : l.length ≤ 68 := by rw [hLN, putN_length N HSM.out, HNL.out]; have := hs.n2; omega
 have HLN := As.mk hLN
 clear hLN hl
 have hbx := bN w (.cells #[.slice none 0 0, .int .i64 0, .int .i64 0, .int .i64 0] 27)
 have hEb := (Ext.refl w).alloc (.cells #[.slice none 0 0, .int .i64 0, .int .i64 0, .int .i64 0] 27)
 generalize (w.alloc (.cells #[.slice none 0 0, .int .i64 0, .int .i64 0, .int .i64 0] 27)) = wb at *
 have hFb := FExt hF hEb
 have hAb := hA.ext hEb
 have hNl : N.length = s.types.length + 4 := HNL.out
 have hn2 := hs.n2
 go_loopw [0, 4] (fun bv v wr => ∃ (k : Nat) (Ab : Option Addr) (cb : Nat) (rest : List Int), k ≤ N.length ∧ bv = .slice Ab rest.length cb ∧ rdU8.Sl F wb Ab cb rest ∧ As (rest = putN (N.drop k)) ∧ rest.length ≤ 68 ∧ (rdInt .i64).Own F wb.heap.size 3 wr v (N.take k) ∧ Ext wb wr) (fun bv _ _ => lenOf bv)
 case atStart => exact ⟨0, A, c, l, Nat.zero_le _, rfl, hAb, HLN, hll, Rd.Own.nil _ _ _ _ _, Ext.refl _⟩
 case round =>
   obtain ⟨k, Ab, cb, rest, hkl, rfl, hR, hrest, hrl, hown, hE⟩ := hrel
   by_cases hlt : k < N.length
   · obtain ⟨h0, h64⟩ := HSM.out _ (List.getElem_mem hlt)
     obtain ⟨x, hx⟩ : ∃ x : Nat, N[k] = x := ⟨N[k].toNat, by omega⟩
     have hx64 : x ≤ 64 := by omega
     have hr1 := hrest.out
     rw [List.drop_eq_getElem_cons hlt, putN_cons, hx, Int.toNat_natCast] at hr1
     have hp := pv_pos x
     have hp10 := pv_le10 x (by omega)
     have h8 : (pv x).length ≤ rest.length := by rw [hr1, List.length_append]; omega
     obtain ⟨A1, hsl1, hS1⟩ := hR.suf elU8 (pv x).length (rest.length - (pv x).length) ((pv x).length : Int) h8 rfl rfl
     have hr2 : rest.drop (pv x).length = putN (N.drop (k + 1)) := by rw [hr1]; exact List.drop_left' rfl
     have HTL : As ((N.take k).length ≤ 2000) := ⟨by rw [List.length_take]; omega⟩
     have HR1 := As.mk hr1
     have HR2 := As.mk hr2
     have HX := As.mk hx
     clear hr1 hr2 h0 h64 hx
     have hp0 : (((pv x).length : Int) == 0) = false := beq_eq_false_iff_ne.mpr (by omega)
     go_wp2_with (fail)
     refine (varC F Ab cb x _ rest HR1.out wr (by omega) (hR.ext hE) (by omega)).mono ?_; rintro e w1 ⟨rfl, hb1⟩
     have hown1 := hown.ext hb1
     have hE1 := hE.trans hb1
     go_wp2_with (fail)
     have hwx : IntKind.i64.wrap (x : Int) = x := by rw [IntKind.wrap_i64]; omega
     go_region_held3 (fun _ => True) (trivial) ((refine step_push rfl (.tmp 24) (.tmp 27) 25 rfl (rdInt .i64) elInt (v := u4) (by rfl) (hown1.ext XE) (by rfl) (by exact heap_alloc_new w1 _) (y := N[k]) (by first | exact congrArg (fun t => [Value.int .i64 t]) HX.out.symm | exact congrArg (fun t => [Value.int .i64 t]) (hwx.trans HX.out.symm)) (by have := HTL.out; omega) (by have := HTL.out; unfold maxLen; omega) (hE1.trans XE) ?_; intro v' w2 hown2 hg2 hE2))
     have hT := take_snoc N hlt
     rw [← hT] at hown2
     clear hT
     go_wp2
     go_roundw
     case rel => exact ⟨k + 1, A1, cb - (pv x).length, rest.drop (pv x).length, by omega, by rw [List.length_drop], hS1, HR2, by rw [List.length_drop]; omega, hown2, hE2⟩
     case measure => simp [lenOf]; omega
   · obtain rfl : k = N.length := by omega
     have hr0 := hrest.out
     rw [List.drop_length] at hr0
     obtain rfl : rest = [] := hr0
     rw [List.take_length] at hown
     have hwb : w.heap.size < wb.heap.size := blk_lt hbx
     obtain ⟨A2, c2, rfl, hsN⟩ := (hown.free (G := fun k => F k ∨ k = w.heap.size) (intFree .i64) (fun _ _ => rfl)).shut (fun k hk => hk.elim (hFb k) (fun e => by rw [e]; exact hwb))
     generalize hn : s.types.length = n at *
     have hN0 : N = (n : Int) :: (s.types ++ [(s.keys : Int), (s.mode : Int), (s.grain : Int)]) := by rw [← hN, nums, hn]
     have g0 : N[0]'(by omega) = (n : Int) := by simp only [hN0, List.getElem_cons_zero]
     have gk : ∀ (j : Nat) x, [(s.keys : Int), (s.mode : Int), (s.grain : Int)][j]? = some x → N[n + 1 + j]? = some x := by
       intro j x hx
       rw [hN0, show n + 1 + j = (n + j) + 1 by omega, List.getElem?_cons_succ, List.getElem?_append_right (by omega), ← hx]
       congr 1; omega
     have g1 := (List.getElem?_eq_some_iff.1 (gk 0 _ rfl)).2
     have g2 := (List.getElem?_eq_some_iff.1 (gk 1 _ rfl)).2
     have g3 := (List.getElem?_eq_some_iff.1 (gk 2 _ rfl)).2
     simp only [Nat.add_zero] at g1
     obtain ⟨b, o, rfl, c0⟩ := int_get hsN (k := 0) (by omega)
     obtain ⟨b', o', hb', c1⟩ := int_get hsN (k := n + 1) (by omega)
     cases hb'
     obtain ⟨b', o', hb', c2⟩ := int_get hsN (k := n + 1 + 1) (by omega)
     cases hb'
     obtain ⟨b', o', hb', c3⟩ := int_get hsN (k := n + 1 + 2) (by omega)
     cases hb'
     rw [g0, Nat.add_zero] at c0
     rw [g1] at c1; rw [g2] at c2; rw [g3] at c3
     obtain ⟨A3, hsl, hS3⟩ := cut3 hsN elInt 1 (n + 1) (n + 1) n n 1 ((n : Int) + 1) ((n : Int) + 1) (by omega) (by omega) (Nat.le_refl _) (by have := hsN.le; omega) rfl (by omega) (by omega) (by omega) (by omega)
     have ht : (N.take (n + 1)).drop 1 = s.types := by
       rw [hN0, List.take_succ_cons, List.drop_succ_cons, List.drop_zero, List.take_left' hn]
     rw [ht] at hS3
     rw [hNl] at hsl
     have HN := As.mk hn
     clear hn hN hN0 g0 g1 g2 g3 gk ht
     have d0 : decide ((n : Int) + 4 < 4) = false := decide_eq_false (by omega)
     go_wp2_with (fail)
     have hbl : b < wr.heap.size := World.block_lt_of_cell? wr _ c0
     have i1 : IntKind.i64.wrap ((n : Int) + 1 + 1) = (n : Int) + 1 + 1 := by rw [IntKind.wrap_i64]; omega
     have i2 : IntKind.i64.wrap ((n : Int) + 1 + 2) = (n : Int) + 1 + 2 := by rw [IntKind.wrap_i64]; omega
     have i3 : (0 : Int) ≤ (n : Int) + 1 := by omega
     have i4 : (n : Int) + 1 < (n : Int) + 4 := by omega
     have i5 : (0 : Int) ≤ (n : Int) + 1 + 1 := by omega
     have i6 : (n : Int) + 1 + 1 < (n : Int) + 4 := by omega
     have i7 : (0 : Int) ≤ (n : Int) + 1 + 2 := by omega
     have i8 : (n : Int) + 1 + 2 < (n : Int) + 4 := by omega
     have i9 : ((n : Int) + 1).toNat = n + 1 := by omega
     have i10 : ((n : Int) + 1 + 1).toNat = n + 1 + 1 := by omega
     have i11 : ((n : Int) + 1 + 2).toNat = n + 1 + 2 := by omega
     go_region
     have hEw : Ext wr (wr.alloc (.cells #[.slice A3 n n, .int .i64 s.keys, .int .i64 s.mode, .int .i64 s.grain] 27)).drew := ((Ext.refl wr).alloc _).drew
     have hby : (wr.alloc (.cells #[.slice A3 n n, .int .i64 s.keys, .int .i64 s.mode, .int .i64 s.grain] 27)).drew.heap[wr.heap.size]? = _ := bN wr (.cells #[.slice A3 n n, .int .i64 s.keys, .int .i64 s.mode, .int .i64 s.grain] 27)
     generalize (wr.alloc (.cells #[.slice A3 n n, .int .i64 s.keys, .int .i64 s.mode, .int .i64 s.grain] 27)).drew = w2 at *
     have y0 := bC hby 0
     have y1 := bC hby 1
     have y2 := bC hby 2
     have y3 := bC hby 3
     clear i1 i2 i3 i4 i5 i6 i7 i8 i9 i10 i11
     have hS4 : SchAt (fun k => F k ∨ k = w.heap.size) w2 A3 n s := Rd.Sl.ext hS3 hEw
     have hck := checkC _ A3 n s w2 hS4 hs
     unfold schV at hck
     rw [HN.out] at hck
     (try simp only [Exit.inBlock, Exit.then])
     go_wp2_with (fail)
     refine hck.mono ?_
     rintro e w3 ⟨rfl, hE3⟩
     have hE4 := hE.trans (hEw.trans hE3)
     have hx4 := hE4.blk hbx
     have hy4 := hE3.blk hby
     have z0 := bC hy4 0
     have z1 := bC hy4 1
     have z2 := bC hy4 2
     have z3 := bC hy4 3
     have x0 := bC hx4 0
     have x1 := bC hx4 1
     have x2 := bC hx4 2
     have x3 := bC hx4 3
     have fx0 := bF hx4 0
     have fx1 := bF hx4 1
     have fx2 := bF hx4 2
     have fx3 := bF hx4 3
     go_wp2_with (fail)
     have B4 := bS (bS (bS (bS hx4 0 (.slice A3 n n)) 1 (.int .i64 s.keys)) 2 (.int .i64 s.mode)) 3 (.int .i64 s.grain)
     have e0 := bC B4 0
     have e1 := bC B4 1
     have e2 := bC B4 2
     have e3 := bC B4 3
     clear B4
     have hE5 := ((((hEb.trans hE4).setCell (a := ⟨w.heap.size, 0, none⟩) (Nat.le_refl _) (.slice A3 n n)).setCell (a := ⟨w.heap.size, 1, none⟩) (Nat.le_refl _) (.int .i64 s.keys)).setCell (a := ⟨w.heap.size, 2, none⟩) (Nat.le_refl _) (.int .i64 s.mode)).setCell (a := ⟨w.heap.size, 3, none⟩) (Nat.le_refl _) (.int .i64 s.grain)
     (try simp only [Exit.inBlock, Exit.then])
     refine bodyPost_ret (v := .tuple #[.agg #[.slice A3 n n, .int .i64 s.keys, .int .i64 s.mode, .int .i64 s.grain], .int .i64 0]) (by simp [results, Tryz.results159, go_sem, e0, e1, e2, e3]) rfl ?_
     refine ⟨A3, n, by rw [schV, HN.out], ?_, hE5⟩
     refine Rd.Sl.narrow Nat.one_pos ?_ (fun k _ hk => Or.inl hk : ∀ k, _ → F k → F k ∨ k = w.heap.size)
     exact (Rd.Sl.ext hS4 hE3).keep ((((Keep.setCell _ _ _ (.inr rfl)).trans (Keep.setCell _ _ _ (.inr rfl))).trans (Keep.setCell _ _ _ (.inr rfl))).trans (Keep.setCell _ _ _ (.inr rfl)))
end K14
end Go.Proofs.YtbjeejimedhniaaGreatDoor
