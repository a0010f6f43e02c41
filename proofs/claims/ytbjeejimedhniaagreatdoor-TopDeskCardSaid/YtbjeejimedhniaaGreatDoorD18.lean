/- Contracts of the program's functions, as the walks of the law use them. -/
import Derived.Test.YtbjeejimedhniaaGreatDoorD17
import Derived.Test.YtbjeejimedhniaaGreatDoorD15
import Derived.Test.YtbjeejimedhniaaGreatDoorD14
import Derived.Test.YtbjeejimedhniaaGreatDoorD16
import Derived.Test.YtbjeejimedhniaaGreatDoorD10
import Derived.WalkMore
set_option linter.unusedVariables false
set_option linter.unusedSimpArgs false
set_option maxRecDepth 100000
set_option maxHeartbeats 2000000
namespace Go.Proofs.YtbjeejimedhniaaGreatDoor
namespace K53
open Go Go.RowKit Go.Maps
open KB KB2 KB3 K1 P5 K35 K42 K50 K51
structure FnM where
 fn : Nat
 b : Array Value
 c : Array Value
def rdFn : Rd FnM where
 sz := 1
 C := fun _ _ cs x => cs = [.func (.func x.fn) x.b x.c]
 len := by rintro _ _ _ _ rfl; rfl
 keep := fun _ h => h
 narrow := fun _ h => h
 one := by rintro _ _ _ _ rfl u hu; simp at hu; rcases hu with rfl; rfl
theorem fn_get {F : Nat → Prop} {w : World} {A : Option Addr} {c : Nat} {l : List FnM} (h : rdFn.Sl F w A c l) {k : Nat} (hk : k < l.length) : ∃ b o, A = some ⟨b, o, none⟩ ∧ w.cell? ⟨b, o + k, none⟩ = some (.func (.func l[k].fn) l[k].b l[k].c) := by
 obtain ⟨b, o, e, _, cs, hC, hc⟩ := h.get hk
 have hC' : cs = [_] := hC
 subst hC'
 exact ⟨b, o, e, by have := hc 0 _ rfl; simpa [rdFn] using this⟩
theorem allC (G : Nat → Prop) (A : Option Addr) (c : Nat) (l : List FnM) (P : Nat → World → Prop) (w : World) (hA : rdFn.Sl G w A c l) (hn : l.length ≤ 1000) (h0 : P 0 w)
   (hst : ∀ k (hk : k < l.length) W, Keep G w W → P k W → Calls Tryz.prog l[k].fn (l[k].b ++ l[k].c) W fun e w' => e = .returned (.int .i64 0) ∧ P (k + 1) w' ∧ Keep G W w')
   (hen : ∀ k (hk : k < l.length), IsFn l[k].fn) :
   Calls Tryz.prog 93 #[.slice A l.length c] w fun e w' => e = .returned (.int .i64 0) ∧ P l.length w' ∧ Keep G w w' := by
 go_enter Tryz.func93, Tryz.ntmps93
 go_wp2_with (fail)
 go_loopw [4, 5, 8] (fun _ _ i wr => ∃ k : Nat, i = .int .i64 k ∧ k ≤ l.length ∧ P k wr ∧ Keep G w wr) (fun _ _ i _ => l.length - (intOf i).toNat)
 case atStart => exact ⟨0, by go_num, Nat.zero_le _, h0, Keep.refl _ _⟩
 case round =>
   obtain ⟨k, rfl, hkl, hP, hK⟩ := hrel
   by_cases hlt : k < l.length
   · obtain ⟨b, o, rfl, hc⟩ := fn_get (hA.keep hK) hlt
     have hent := hen k hlt (l[k].b ++ l[k].c)
     have hent1 := hen k hlt
     have hs := hst k hlt wr hK hP
     generalize l[k] = x at *
     obtain ⟨fn, fb, fc⟩ := x
     dsimp only at *
     go_wp2_with (fail)
     refine hs.mono ?_; rintro e w1 ⟨rfl, hP1, k1⟩
     go_wp2
     go_roundw
     case rel => exact ⟨k + 1, by go_num, by omega, hP1, hK.trans k1⟩
     case measure => simp [intOf] <;> omega
   · obtain rfl : k = l.length := by omega
     go_wp2
     go_ret
     exact ⟨rfl, hP, hK⟩
end K53
namespace K54
open Go Go.RowKit Go.Maps
open KB KB2 KB3 K1 K6 P5 K35 K36 K38 K40 K45 K52 K42 K43 K50 K51 K53
set_option linter.unusedSectionVars false
abbrev logS : ByteArray := ⟨#[108, 111, 103]⟩
abbrev newS : ByteArray := ⟨#[108, 111, 103, 46, 110, 101, 119]⟩
theorem newS_ne : ¬ newS.toList = [] := by rw [Lib.toList_data]; decide
theorem logS_ne : ¬ logS.toList = [] := by rw [Lib.toList_data]; decide
section
variable (F : Nat → Prop) (dg mg : Nat) (D : Dsk) (w : World) (h : DiskAt F w dg mg D) (hl : D.lim + 3 ≤ 100000) (hF : ∀ k, F k → k < w.heap.size) (xb : Nat) (hxb : w.heap[xb]? = some (.cells #[BX dg] 28 (0, 0)))
include h hl hF hxb
theorem log1C (i : Nat) (hi : getA logS D.M = some i) (fb : List Int) (fs : Int) (hf : D.files[i]? = some (fb, fs)) (A : Option Addr) (c : Nat) (b : List Int) (hb : rdU8.Sl (DF F dg mg) w A c b) (hu : used D.fs + b.length ≤ D.quota) (hsum : fb.length + b.length ≤ 10000000) (bb : Nat) (hbb : w.heap[bb]? = some (.cells #[.slice A b.length c] 120 (0, 0))) :
   Calls Tryz.prog 152 #[BX xb, BX bb] w fun e w' => e = .returned (.int .i64 0) ∧ DiskAt F w' dg mg { D with steps := D.steps + 1, lim := D.lim + 1, files := D.files.set i (fb ++ b, fs) } ∧ Keep (Two' dg mg) w w' := by
 have x0 := bC hxb 0
 have b0 := bC hbb 0
 have ha := appendC F dg mg D w h (by omega) logS (by decide) i hi fb fs hf A c b hb hu hsum hF
 clear hi hf h
 go_enter Tryz.func152, Tryz.ntmps152
 go_wp2_with (first | (go_at_call 66; refine ha.mono ?_; rintro e w1 ⟨rfl, hD, hk⟩))
 go_ret
 exact ⟨rfl, hD, hk⟩
theorem save3C (i : Nat) (hi : getA newS D.M = some i) (fb : List Int) (fs : Int) (hf : D.files[i]? = some (fb, fs)) (A : Option Addr) (c : Nat) (b : List Int) (hb : rdU8.Sl (DF F dg mg) w A c b) (hu : used D.fs + b.length ≤ D.quota) (hsum : fb.length + b.length ≤ 10000000) (bb : Nat) (hbb : w.heap[bb]? = some (.cells #[.slice A b.length c] 120 (0, 0))) :
   Calls Tryz.prog 95 #[BX xb, BX bb] w fun e w' => e = .returned (.int .i64 0) ∧ DiskAt F w' dg mg { D with steps := D.steps + 1, lim := D.lim + 1, files := D.files.set i (fb ++ b, fs) } ∧ Keep (Two' dg mg) w w' := by
 have x0 := bC hxb 0
 have b0 := bC hbb 0
 have ha := appendC F dg mg D w h (by omega) newS (by decide) i hi fb fs hf A c b hb hu hsum hF
 clear hi hf h
 go_enter Tryz.func95, Tryz.ntmps95
 go_wp2_with (first | (go_at_call 66; refine ha.mono ?_; rintro e w1 ⟨rfl, hD, hk⟩))
 go_ret
 exact ⟨rfl, hD, hk⟩
theorem log2C (i : Nat) (hi : getA logS D.M = some i) (fb : List Int) (fs : Int) (hf : D.files[i]? = some (fb, fs)) :
   Calls Tryz.prog 153 #[BX xb] w fun e w' => e = .returned (.int .i64 0) ∧ DiskAt F w' dg mg { D with steps := D.steps + 1, lim := D.lim + 1, files := D.files.set i (fb, fb.length) } ∧ Keep (Two' dg mg) w w' := by
 have x0 := bC hxb 0
 have ha := syncC F dg mg D w h (by omega) logS (by decide) i hi fb fs hf hF
 clear hi hf h
 go_enter Tryz.func153, Tryz.ntmps153
 go_wp2_with (first | (go_at_call 71; refine ha.mono ?_; rintro e w1 ⟨rfl, hD, hk⟩))
 go_ret
 exact ⟨rfl, hD, hk⟩
theorem save4C (i : Nat) (hi : getA newS D.M = some i) (fb : List Int) (fs : Int) (hf : D.files[i]? = some (fb, fs)) :
   Calls Tryz.prog 96 #[BX xb] w fun e w' => e = .returned (.int .i64 0) ∧ DiskAt F w' dg mg { D with steps := D.steps + 1, lim := D.lim + 1, files := D.files.set i (fb, fb.length) } ∧ Keep (Two' dg mg) w w' := by
 have x0 := bC hxb 0
 have ha := syncC F dg mg D w h (by omega) newS (by decide) i hi fb fs hf hF
 clear hi hf h
 go_enter Tryz.func96, Tryz.ntmps96
 go_wp2_with (first | (go_at_call 71; refine ha.mono ?_; rintro e w1 ⟨rfl, hD, hk⟩))
 go_ret
 exact ⟨rfl, hD, hk⟩
theorem save1C (hno : getA newS D.M = none) : Calls Tryz.prog 91 #[BX xb] w fun e w' => e = .returned (.int .i64 0) ∧ Ext w w' := by
 have x0 := bC hxb 0
 have ha := hasC F dg mg D w h newS hF
 have hni := getA_none.1 hno
 clear h
 go_enter Tryz.func91, Tryz.ntmps91
 go_wp2_with (first | (go_at_call 92; refine ha.mono ?_; rintro e w1 ⟨⟨f, rfl, hf⟩, hE⟩; obtain rfl : f = false := by (cases f; rfl; exact absurd (hf.1 rfl) hni)))
 go_ret
 exact ⟨rfl, hE⟩
theorem save2C (hM : D.M.length < 200) (hno : getA newS D.M = none) (hem : getA emp D.M = none) : Calls Tryz.prog 94 #[BX xb] w fun e w' => e = .returned (.int .i64 0) ∧ DiskAt F w' dg mg { D with steps := D.steps + 1, lim := D.lim + 3, files := D.files ++ [([], 0)], M := putA newS D.files.length D.M, clean := false } ∧ Keep (Two' dg mg) w w' := by
 have x0 := bC hxb 0
 have ha := createC F dg mg D w h hl newS (by decide) (by decide) newS_ne hM hno hem hF
 clear hno hem h
 go_enter Tryz.func94, Tryz.ntmps94
 go_wp2_with (first | (go_at_call 65; refine ha.mono ?_; rintro e w1 ⟨rfl, hD, hk⟩))
 go_ret
 exact ⟨rfl, hD, hk⟩
theorem save5C (i : Nat) (hi : getA newS D.M = some i) : Calls Tryz.prog 97 #[BX xb] w fun e w' => e = .returned (.int .i64 0) ∧ DiskAt F w' dg mg { D with steps := D.steps + 1, lim := D.lim + 2, M := putA logS i (delA newS D.M), clean := false } ∧ Keep (Two' dg mg) w w' := by
 have x0 := bC hxb 0
 have ha := renameC F dg mg D w h (by omega) newS logS (by decide) (by decide) (by decide) logS_ne i hi hF
 clear hi h
 go_enter Tryz.func97, Tryz.ntmps97
 go_wp2_with (first | (go_at_call 98; refine ha.mono ?_; rintro e w1 ⟨rfl, hD, hk⟩))
 go_ret
 exact ⟨rfl, hD, hk⟩
end
theorem files_get {files : List FileM} {i : Nat} {f g : FileM} (h : files[i]? = some f) : (files.set i g)[i]? = some g := by
 rw [List.getElem?_set_self (List.getElem?_eq_some_iff.1 h).1]
theorem logC (F : Nat → Prop) (dg mg : Nat) (D : Dsk) (w : World) (h : DiskAt F w dg mg D) (hl : D.lim + 4 ≤ 100000) (hF : ∀ k, F k → k < w.heap.size) (v0 v1 v2 v3 v4 v5 v6 : Value) (b : List Int)
   (hput : ∀ W, Ext w W → Calls Tryz.prog 89 #[.agg #[v0, v1, v2, v3, v4, v5, v6]] W fun e w' => ∃ A c, e = .returned (.tuple #[.slice A b.length c, .bool true]) ∧ rdU8.Sl (DF F dg mg) w' A c b ∧ Ext W w')
   (i : Nat) (hi : getA logS D.M = some i) (fb : List Int) (fs : Int) (hf : D.files[i]? = some (fb, fs)) (hu : used D.fs + b.length ≤ D.quota) (hsum : fb.length + b.length ≤ 10000000) :
   Calls Tryz.prog 74 #[BX dg, .agg #[v0, v1, v2, v3, v4, v5, v6]] w fun e w' => e = .returned (.int .i64 0) ∧ DiskAt F w' dg mg { D with steps := D.steps + 2, lim := D.lim + 2, files := D.files.set i (fb ++ b, (fb ++ b).length) } ∧ Keep (Two' dg mg) w w' := by
 have hlt := h.lt
 have hx0 := bN w (.cells #[BX dg] 28)
 have hx := bO2 (o' := .cells #[v0, v1, v2, v3, v4, v5, v6] 92) hx0
 have hE1 := ((Ext.refl w).alloc (.cells #[BX dg] 28)).alloc (.cells #[v0, v1, v2, v3, v4, v5, v6] 92)
 have hp := hput _ hE1
 go_enter Tryz.func74, Tryz.ntmps74
 go_wp2_with (first | (go_at_call 89; refine hp.mono ?_; rintro e w1 ⟨A, c, rfl, hb, hE⟩))
 have hEw := hE1.trans hE
 have hn1 := bN w1 (.cells #[.slice A b.length c] 120)
 have hn := bO2 (o' := .cells #[.func (.func 152) #[] #[BX w.heap.size, BX w1.heap.size], .func (.func 153) #[] #[BX w.heap.size]] 151) hn1
 have hL := bN (w1.alloc (.cells #[.slice A b.length c] 120)) (.cells #[.func (.func 152) #[] #[BX w.heap.size, BX w1.heap.size], .func (.func 153) #[] #[BX w.heap.size]] 151)
 rw [World.size_alloc] at hL
 have hE5 := ((Ext.refl w1).alloc (.cells #[.slice A b.length c] 120)).alloc (.cells #[.func (.func 152) #[] #[BX w.heap.size, BX w1.heap.size], .func (.func 153) #[] #[BX w.heap.size]] 151)
 have hxw := (hE.trans hE5).blk hx
 have hs1 := hEw.size
 generalize ((w1.alloc (.cells #[.slice A b.length c] 120)).alloc (.cells #[.func (.func 152) #[] #[BX w.heap.size, BX w1.heap.size], .func (.func 153) #[] #[BX w.heap.size]] 151)) = w5 at *
 have hA : rdFn.Sl (Two' dg mg) w5 (some ⟨w1.heap.size + 1, 0, none⟩) 2 [⟨152, #[], #[BX w.heap.size, BX w1.heap.size]⟩, ⟨153, #[], #[BX w.heap.size]⟩] := lit_one rfl hL (by rintro (e | e) <;> omega) rfl (by simp [maxLen]) (fun k x hk => by
   match k, hk with
   | 0, hk => cases hk; exact ⟨_, rfl, rfl⟩
   | 1, hk => cases hk; exact ⟨_, rfl, rfl⟩
   | k + 2, hk => simp at hk)
 have hD5 := h.ext (hEw.trans hE5)
 have hb5 := hb.ext hE5
 have hF5 := FExt hF (hEw.trans hE5)
 have hall := allC (Two' dg mg) _ 2 _ (fun k W => DiskAt F W dg mg (if k = 0 then D else if k = 1 then { D with steps := D.steps + 1, lim := D.lim + 1, files := D.files.set i (fb ++ b, fs) } else { D with steps := D.steps + 2, lim := D.lim + 2, files := D.files.set i (fb ++ b, ((fb ++ b).length : Int)) })) w5 hA (by simp) hD5 (fun k hk W kW hP => by
   match k, hk with
   | 0, _ =>
     exact log1C F dg mg D W hP (by omega) (fun k q => Nat.lt_of_lt_of_le (hF5 k q) kW.size) w.heap.size (kW.blk (by rintro (e | e) <;> omega) hxw) i hi fb fs hf A c b (hb5.keep (kW.mono (fun _ _ q => .inr q))) hu hsum w1.heap.size (kW.blk (by rintro (e | e) <;> omega) hn)
   | 1, _ =>
     refine (log2C F dg mg { D with steps := D.steps + 1, lim := D.lim + 1, files := D.files.set i (fb ++ b, fs) } W hP (by show D.lim + 1 + 3 ≤ _; omega) (fun k q => Nat.lt_of_lt_of_le (hF5 k q) kW.size) w.heap.size (kW.blk (by rintro (e | e) <;> omega) hxw) i hi (fb ++ b) fs (files_get hf)).mono ?_
     rintro e w' ⟨h1, h2, h3⟩
     refine ⟨h1, ?_, h3⟩
     dsimp only at h2
     rw [List.set_set] at h2
     exact h2
   | k + 2, hk => simp at hk; omega) (fun k hk => by
   match k, hk with
   | 0, _ => exact fun _ _ => rfl
   | 1, _ => exact fun _ _ => rfl
   | k + 2, hk => simp at hk; omega)
 clear hi hf h hput hp hD5
 refine hall.mono ?_; rintro e w6 ⟨rfl, hD6, k6⟩
 go_wp2
 go_ret
 exact ⟨rfl, hD6, ((hEw.trans hE5).keep _).trans k6⟩
end K54
namespace K57
open Go Go.RowKit
open KB P5 K54
def nameS (i : Nat) : ByteArray := ⟨(112 :: Lib.decDigits i).toArray⟩
theorem dec_len (i : Nat) (hi : i < 100) : 1 ≤ (Lib.decDigits i).length ∧ (Lib.decDigits i).length ≤ 2 := by
 rw [Lib.decDigits]
 split
 · simp
 · rw [Lib.decDigits, dif_pos (by omega)]; simp
theorem nameC (i : Nat) (hi : i < 100) (w : World) : Calls Tryz.prog 63 #[.int .i64 i] w fun e w' => e = .returned (.string (nameS i)) ∧ w' = w := by
 have hlen : ¬ 9223372036854775807 < 1 + (Lib.decDigits i).length := by have := dec_len i hi; omega
 have e : (⟨#[112]⟩ : ByteArray) ++ ⟨(Lib.decDigits i).toArray⟩ = nameS i := by apply ba_eq; simp [nameS]
 go_enter Tryz.func63, Tryz.ntmps63
 go_wp2_with (first | (go_at_call 126; refine (Tryz.strconv_Itoa_small i hi _).mono ?_; rintro e w' ⟨rfl, rfl⟩))
 go_ret
 exact ⟨by first | rfl | (rw [← e]; rfl), rfl⟩
theorem nameS_len (i : Nat) : (nameS i).size = (Lib.decDigits i).length + 1 := by simp [nameS, ByteArray.size]
theorem nameS_size (i : Nat) (hi : i < 100) : 2 ≤ (nameS i).size ∧ (nameS i).size ≤ 3 := by
 have := dec_len i hi
 rw [nameS_len]; omega
theorem nameS_log (i : Nat) : nameS i ≠ logS ∧ nameS i ≠ newS := by
 constructor <;> intro h <;> (have := congrArg (fun b : ByteArray => b.data.toList.head?) h; simp [nameS] at this)
theorem nameS_ne (i : Nat) : ¬ (nameS i).toList = [] := by rw [Lib.toList_data]; simp [nameS]
theorem nameS_emp (i : Nat) : nameS i ≠ ⟨#[]⟩ := by
 intro h
 have := congrArg (fun b : ByteArray => b.data.toList.head?) h
 simp [nameS] at this
theorem dec1 (i : Nat) (h : i < 10) : Lib.decDigits i = [UInt8.ofNat (48 + i)] := by rw [Lib.decDigits, dif_pos h]
theorem dec2 (i : Nat) (h : ¬ i < 10) (hi : i < 100) : Lib.decDigits i = [UInt8.ofNat (48 + i / 10), UInt8.ofNat (48 + i % 10)] := by rw [Lib.decDigits, dif_neg h, dec1 _ (by omega)]; rfl
theorem dec_inj (a b : Nat) (ha : a < 100) (hb : b < 100) (h : Lib.decDigits a = Lib.decDigits b) : a = b := by
 by_cases h1 : a < 10 <;> by_cases h2 : b < 10
 · rw [dec1 a h1, dec1 b h2] at h
   simp only [List.cons.injEq, and_true] at h
   have := congrArg UInt8.toNat h
   simp only [UInt8.toNat_ofNat'] at this
   omega
 · rw [dec1 a h1, dec2 b h2 hb] at h; simp at h
 · rw [dec2 a h1 ha, dec1 b h2] at h; simp at h
 · rw [dec2 a h1 ha, dec2 b h2 hb] at h
   simp only [List.cons.injEq, and_true] at h
   have h1 := congrArg UInt8.toNat h.1
   have h2 := congrArg UInt8.toNat h.2
   simp only [UInt8.toNat_ofNat'] at h1 h2
   omega
theorem nameS_inj (i k : Nat) (hi : i < 100) (hk : k < 100) (h : nameS i = nameS k) : i = k := by
 have := congrArg (fun b : ByteArray => b.data.toList) h
 simp only [nameS, List.toList_toArray, List.cons.injEq, true_and] at this
 exact dec_inj i k hi hk this
end K57
namespace K31
open Go Go.RowKit
open KB KB2 KB3 K1 K6 K7 K8 K9 K22 K24 K25 K29 K30
abbrev stV (A : Option Addr) (c : Nat) (s : Sch) (Ai : Option Addr) (ci : Nat) (ids : List Int) (next : Int) : Value :=
 .agg #[.slice A s.types.length c, .int .i64 s.keys, .int .i64 s.mode, .int .i64 s.grain, .slice Ai ids.length ci, .int .i64 next]
theorem applyAddC (F : Nat → Prop) (A Ai : Option Addr) (c ci : Nat) (s : Sch) (ids : List Int) (next : Int) (id : Nat) (hid : id ≤ 999999) (hnx : next ≤ id) (hn : ids.length < 40) (w : World) (hi : (rdInt .i64).Sl F w Ai ci ids) (hF : ∀ k, F k → k < w.heap.size) :
   Calls Tryz.prog 76 #[stV A c s Ai ci ids next, .agg #[.int .i64 2, .slice none 0 0, .int .i64 0, .int .i64 0, .int .i64 0, .slice none 0 0, .int .i64 id]] w fun e w' => ∃ Ai' ci', e = .returned (.tuple #[stV A c s Ai' ci' (ids ++ [(id : Int)]) (id + 1), .bool true]) ∧ (rdInt .i64).Sl F w' Ai' ci' (ids ++ [(id : Int)]) ∧ Ext w w' := by
 have B1 := bN w (.cells #[.slice A s.types.length c, .int .i64 s.keys, .int .i64 s.mode, .int .i64 s.grain, .slice Ai ids.length ci, .int .i64 next] 82)
 have hE1 := (Ext.refl w).alloc (.cells #[.slice A s.types.length c, .int .i64 s.keys, .int .i64 s.mode, .int .i64 s.grain, .slice Ai ids.length ci, .int .i64 next] 82)
 have B2 := bN (w.alloc (.cells #[.slice A s.types.length c, .int .i64 s.keys, .int .i64 s.mode, .int .i64 s.grain, .slice Ai ids.length ci, .int .i64 next] 82)) (.cells #[.int .i64 2, .slice none 0 0, .int .i64 0, .int .i64 0, .int .i64 0, .slice none 0 0, .int .i64 id] 92)
 have hE2 := hE1.alloc (.cells #[.int .i64 2, .slice none 0 0, .int .i64 0, .int .i64 0, .int .i64 0, .slice none 0 0, .int .i64 id] 92)
 have B3 := bN ((w.alloc (.cells #[.slice A s.types.length c, .int .i64 s.keys, .int .i64 s.mode, .int .i64 s.grain, .slice Ai ids.length ci, .int .i64 next] 82)).alloc (.cells #[.int .i64 2, .slice none 0 0, .int .i64 0, .int .i64 0, .int .i64 0, .slice none 0 0, .int .i64 id] 92)) (.cells #[.slice none 0 0, .int .i64 0, .int .i64 0, .int .i64 0, .slice none 0 0, .int .i64 0] 82)
 have hE3 := hE2.alloc (.cells #[.slice none 0 0, .int .i64 0, .int .i64 0, .int .i64 0, .slice none 0 0, .int .i64 0] 82)
 replace B2 := bO2 (o' := .cells #[.slice none 0 0, .int .i64 0, .int .i64 0, .int .i64 0, .slice none 0 0, .int .i64 0] 82) B2
 replace B1 := bO2 (o' := .cells #[.slice none 0 0, .int .i64 0, .int .i64 0, .int .i64 0, .slice none 0 0, .int .i64 0] 82) (bO2 (o' := .cells #[.int .i64 2, .slice none 0 0, .int .i64 0, .int .i64 0, .int .i64 0, .slice none 0 0, .int .i64 id] 92) B1)
 simp only [World.size_alloc] at B2 B3
 (have b0 := bC (B2) 0; have b1 := bC (B2) 1; have b2 := bC (B2) 2; have b3 := bC (B2) 3; have b4 := bC (B2) 4; have b5 := bC (B2) 5; have b6 := bC (B2) 6)
 have d0 : decide ((id : Int) < next) = false := decide_eq_false (by omega)
 have d1 : decide ((ids.length : Int) < 40) = true := decide_eq_true (by omega)
 go_enter Tryz.func76, Tryz.ntmps76
 go_wp2_with (fail)
 generalize (((w.alloc (.cells #[.slice A s.types.length c, .int .i64 s.keys, .int .i64 s.mode, .int .i64 s.grain, .slice Ai ids.length ci, .int .i64 next] 82)).alloc (.cells #[.int .i64 2, .slice none 0 0, .int .i64 0, .int .i64 0, .int .i64 0, .slice none 0 0, .int .i64 id] 92)).alloc (.cells #[.slice none 0 0, .int .i64 0, .int .i64 0, .int .i64 0, .slice none 0 0, .int .i64 0] 82)) = w3 at *
 obtain ⟨x, hx⟩ : ∃ x, w.heap.size = x := ⟨_, rfl⟩
 rw [hx] at B1 B2 B3 ⊢
 refine (putAddC (fun _ => False) id hid w3 (fun _ h => h.elim)).mono ?_; rintro e w4 ⟨A4, c4, rfl, _, hE4⟩
 replace B1 := hE4.blk B1
 replace B2 := hE4.blk B2
 replace B3 := hE4.blk B3
 have hEw4 := hE3.trans hE4
 clear b0 b1 b2 b3 b4 b5 b6
 have B5 := bN w4 (.cells #[.slice A s.types.length c, .int .i64 s.keys, .int .i64 s.mode, .int .i64 s.grain, .slice none 0 0, .int .i64 (id + 1)] 82)
 have hE5 := (Ext.refl w4).alloc (.cells #[.slice A s.types.length c, .int .i64 s.keys, .int .i64 s.mode, .int .i64 s.grain, .slice none 0 0, .int .i64 (id + 1)] 82)
 (have a0 := bC (B1) 0; have a1 := bC (B1) 1; have a2 := bC (B1) 2; have a3 := bC (B1) 3; have a4 := bC (B1) 4; have a5 := bC (B1) 5)
 (have b0 := bC (B2) 0; have b1 := bC (B2) 1; have b2 := bC (B2) 2; have b3 := bC (B2) 3; have b4 := bC (B2) 4; have b5 := bC (B2) 5; have b6 := bC (B2) 6)
 (have p0 := bC (hE5.blk B1) 0; have p1 := bC (hE5.blk B1) 1; have p2 := bC (hE5.blk B1) 2; have p3 := bC (hE5.blk B1) 3; have p4 := bC (hE5.blk B1) 4; have p5 := bC (hE5.blk B1) 5)
 (have q0 := bC (hE5.blk B2) 0; have q1 := bC (hE5.blk B2) 1; have q2 := bC (hE5.blk B2) 2; have q3 := bC (hE5.blk B2) 3; have q4 := bC (hE5.blk B2) 4; have q5 := bC (hE5.blk B2) 5; have q6 := bC (hE5.blk B2) 6)
 go_wp2_with (fail)
 have hxy := blk_lt B3
 have hEw5 := hEw4.trans hE5
 replace B1 := hE5.blk B1
 replace B2 := hE5.blk B2
 replace B3 := hE5.blk B3
 have hi5 := hi.ext hEw5
 generalize (w4.alloc (.cells #[.slice A s.types.length c, .int .i64 s.keys, .int .i64 s.mode, .int .i64 s.grain, .slice none 0 0, .int .i64 (id + 1)] 82)) = w5 at *
 obtain ⟨y, hy⟩ : ∃ y, w4.heap.size = y := ⟨_, rfl⟩
 rw [hy] at B5 hxy ⊢
 clear a0 a1 a2 a3 a4 a5 b0 b1 b2 b3 b4 b5 b6
 have z4 := bC (bO2 (o' := .cells #[.int .i64 id] 3) B1) 4
 go_region_law (first | (go_simp; go_at_call 155; refine (clipI (rdInt .i64) F Ai ci ids _ (hi5.ext XE)).mono ?_; rintro e w' ⟨rfl, rfl⟩; dsimp only) | (refine step_clip rfl (.tmp 67) (.tmp 70) 25 rfl (rdInt .i64) elInt (by rfl) rfl ((Sl_clip hi5).ext XE) (by rfl) (by exact heap_alloc_new _ _) (y := (id : Int)) rfl (by omega) (by unfold maxLen; omega) ?_; intro v' w6 hown6 hE6; have hE56 : Ext w5 w6 := Ext.trans XE hE6; replace hown6 := hown6.lower (Ext.size (w := w5) XE); obtain ⟨A7, c7, rfl, hs7⟩ := hown6.shut (FExt hF hEw5); have s4 := bC (hE56.blk B5) 4; have sf4 := bF (hE56.blk B5) 4))
 all_goals
   (try simp only [Exit.inBlock, Exit.then])
   have hxw : w.heap.size ≤ x := Nat.le_of_eq hx
   obtain ⟨M, hM⟩ : ∃ M, ids ++ [(id : Int)] = M := ⟨_, rfl⟩
   have hMl : As (M.length = ids.length + 1) := ⟨by rw [← hM, List.length_append]; rfl⟩
   have HM := As.mk hM
   clear hM
   have Y := bS (hE56.blk B5) 4 (.slice A7 (ids.length + 1) c7)
   have K6 := kS1 w6 y 4 (.slice A7 (ids.length + 1) c7)
   have X3 := K6.blk (by omega : ¬ x + 1 + 1 = y) (hE56.blk B3)
   have n1 : ¬ x + 1 + 1 = y := by omega
   have n2 : ¬ y = x + 1 + 1 := by omega
   (have r0 := bC (hE56.blk B5) 0; have r1 := bC (hE56.blk B5) 1; have r2 := bC (hE56.blk B5) 2; have r3 := bC (hE56.blk B5) 3; have r4 := bC (hE56.blk B5) 4; have r5 := bC (hE56.blk B5) 5)
   (have t0 := bC (hE56.blk B3) 0; have tf0 := bF (hE56.blk B3) 0; have t1 := bC (hE56.blk B3) 1; have tf1 := bF (hE56.blk B3) 1; have t2 := bC (hE56.blk B3) 2; have tf2 := bF (hE56.blk B3) 2; have t3 := bC (hE56.blk B3) 3; have tf3 := bF (hE56.blk B3) 3; have t4 := bC (hE56.blk B3) 4; have tf4 := bF (hE56.blk B3) 4; have t5 := bC (hE56.blk B3) 5; have tf5 := bF (hE56.blk B3) 5)
   go_wp2_with (fail)
   have P := put6 X3 (.slice A s.types.length c) (.int .i64 s.keys) (.int .i64 s.mode) (.int .i64 s.grain) (.slice A7 (ids.length + 1) c7) (.int .i64 (id + 1))
   have KW := K6.or P.2
   (have e0 := bC (P.1) 0; have e1 := bC (P.1) 1; have e2 := bC (P.1) 2; have e3 := bC (P.1) 3; have e4 := bC (P.1) 4; have e5 := bC (P.1) 5)
   (try simp only [Exit.inBlock, Exit.then])
   refine bodyPost_ret (v := .tuple #[stV A c s A7 c7 M (id + 1), .bool true]) (by simp [results, Tryz.results76, go_sem, e0, e1, e2, e3, e4, e5, hMl.out]) rfl ?_
   rw [HM.out] at hown6 ⊢
   have hwy : w.heap.size ≤ y := by have := hEw4.size; omega
   have hy5 := blk_lt B5
   have how := hown6.free (intFree .i64) (G := F) (fun k hk => KW.block k (hown6.ge k hk).2 (fun q => by have := (hown6.ge k hk).1; rcases q with q | q <;> omega))
   obtain ⟨A8, c8, he, hs8⟩ := how.shut (FExt hF hEw5)
   rw [hMl.out] at he
   simp only [Value.slice.injEq, true_and] at he
   obtain ⟨rfl, rfl⟩ := he
   exact ⟨A7, c7, rfl, hs8, (hEw5.trans hE56).keepNew KW (fun i q => by rcases q with q | q <;> omega)⟩
end K31
namespace K55
open Go Go.RowKit Go.Maps
open KB KB2 KB3 K1 K6 K7 K9 K24 K31
set_option linter.unusedSectionVars false
theorem headC (F : Nat → Prop) (A Ai : Option Addr) (c ci : Nat) (s : Sch) (ids : List Int) (next : Int) (w : World) (hi : (rdInt .i64).Sl F w Ai ci ids) (hn : ids.length ≤ 1000) (hF : ∀ k, F k → k < w.heap.size) :
   Calls Tryz.prog 90 #[stV A c s Ai ci ids next] w fun e w' => ∃ A' c', e = .returned (recV 1 A c s A' c' ids next) ∧ (rdInt .i64).Sl F w' A' c' ids ∧ Ext w w' := by
 obtain ⟨x, hxx⟩ : ∃ x, w.heap.size = x := ⟨_, rfl⟩
 have B1 := bO2 (o' := .cells #[.int .i64 0, .slice none 0 0, .int .i64 0, .int .i64 0, .int .i64 0, .slice none 0 0, .int .i64 0] 92) (bN w (.cells #[.slice A s.types.length c, .int .i64 s.keys, .int .i64 s.mode, .int .i64 s.grain, .slice Ai ids.length ci, .int .i64 next] 82))
 have B2 := bN (w.alloc (.cells #[.slice A s.types.length c, .int .i64 s.keys, .int .i64 s.mode, .int .i64 s.grain, .slice Ai ids.length ci, .int .i64 next] 82)) (.cells #[.int .i64 0, .slice none 0 0, .int .i64 0, .int .i64 0, .int .i64 0, .slice none 0 0, .int .i64 0] 92)
 have hE1 := ((Ext.refl w).alloc (.cells #[.slice A s.types.length c, .int .i64 s.keys, .int .i64 s.mode, .int .i64 s.grain, .slice Ai ids.length ci, .int .i64 next] 82)).alloc (.cells #[.int .i64 0, .slice none 0 0, .int .i64 0, .int .i64 0, .int .i64 0, .slice none 0 0, .int .i64 0] 92)
 rw [World.size_alloc] at B2
 go_enter Tryz.func90, Tryz.ntmps90
 go_wp2_with (fail)
 generalize (w.alloc (.cells #[.slice A s.types.length c, .int .i64 s.keys, .int .i64 s.mode, .int .i64 s.grain, .slice Ai ids.length ci, .int .i64 next] 82)).alloc (.cells #[.int .i64 0, .slice none 0 0, .int .i64 0, .int .i64 0, .int .i64 0, .slice none 0 0, .int .i64 0] 92) = w1 at *
 rw [hxx] at B1 B2
 have hx1 : x < w1.heap.size := blk_lt B1
 have hx2 : x + 1 < w1.heap.size := blk_lt B2
 have hF1 : ∀ k, (F k ∨ k = x ∨ k = x + 1) → k < w1.heap.size := fun k q => by
   rcases q with q | q | q
   · exact FExt hF hE1 k q
   · omega
   · omega
 have hi1 : (rdInt .i64).Sl (fun k => F k ∨ k = x ∨ k = x + 1) w1 Ai ci ids := Rd.Sl.ext (Rd.Sl.narrow Nat.one_pos hi (fun k hk q => by
   rcases q with q | q | q
   · exact q
   · omega
   · omega)) hE1
 have hclo := fun W (hE : Ext w1 W) => cloneI (fun k => F k ∨ k = x ∨ k = x + 1) Ai ci ids W (hi1.ext hE) (by omega) (FExt hF1 hE)
 (have p0 := bC (B1) 0; have pf0 := bF (B1) 0; have p1 := bC (B1) 1; have pf1 := bF (B1) 1; have p2 := bC (B1) 2; have pf2 := bF (B1) 2; have p3 := bC (B1) 3; have pf3 := bF (B1) 3; have p4 := bC (B1) 4; have pf4 := bF (B1) 4; have p5 := bC (B1) 5; have pf5 := bF (B1) 5)
 (have y0 := bC (B2) 0; have yf0 := bF (B2) 0; have y1 := bC (B2) 1; have yf1 := bF (B2) 1; have y2 := bC (B2) 2; have yf2 := bF (B2) 2; have y3 := bC (B2) 3; have yf3 := bF (B2) 3; have y4 := bC (B2) 4; have yf4 := bF (B2) 4; have y5 := bC (B2) 5; have yf5 := bF (B2) 5; have y6 := bC (B2) 6; have yf6 := bF (B2) 6)
 go_region_law (first | (go_simp; go_at_call 37; refine (hclo _ XE).mono ?_; rintro e w2 ⟨A2, c2, rfl, hs2, hE2⟩; have hx12 := Ext.trans (a := w1) XE hE2; (have q0 := bC (hx12.blk B1) 0; have qf0 := bF (hx12.blk B1) 0; have q1 := bC (hx12.blk B1) 1; have qf1 := bF (hx12.blk B1) 1; have q2 := bC (hx12.blk B1) 2; have qf2 := bF (hx12.blk B1) 2; have q3 := bC (hx12.blk B1) 3; have qf3 := bF (hx12.blk B1) 3; have q4 := bC (hx12.blk B1) 4; have qf4 := bF (hx12.blk B1) 4; have q5 := bC (hx12.blk B1) 5; have qf5 := bF (hx12.blk B1) 5); (have z0 := bC (hx12.blk B2) 0; have zf0 := bF (hx12.blk B2) 0; have z1 := bC (hx12.blk B2) 1; have zf1 := bF (hx12.blk B2) 1; have z2 := bC (hx12.blk B2) 2; have zf2 := bF (hx12.blk B2) 2; have z3 := bC (hx12.blk B2) 3; have zf3 := bF (hx12.blk B2) 3; have z4 := bC (hx12.blk B2) 4; have zf4 := bF (hx12.blk B2) 4; have z5 := bC (hx12.blk B2) 5; have zf5 := bF (hx12.blk B2) 5; have z6 := bC (hx12.blk B2) 6; have zf6 := bF (hx12.blk B2) 6); dsimp only))
 all_goals
   (try simp only [Exit.inBlock, Exit.then])
   go_wp2_with (fail)
   have P := put7 (hx12.blk B2) (.int .i64 1) (.slice A s.types.length c) (.int .i64 s.keys) (.int .i64 s.mode) (.int .i64 s.grain) (.slice A2 ids.length c2) (.int .i64 next)
   (have e0 := bC (P.1) 0; have e1 := bC (P.1) 1; have e2 := bC (P.1) 2; have e3 := bC (P.1) 3; have e4 := bC (P.1) 4; have e5 := bC (P.1) 5; have e6 := bC (P.1) 6)
   (try simp only [Exit.inBlock, Exit.then])
   refine bodyPost_ret (v := recV 1 A c s A2 c2 ids next) (by simp [results, Tryz.results90, go_sem, e0, e1, e2, e3, e4, e5, e6]) rfl ?_
   exact ⟨A2, c2, rfl, (hs2.keep (P.2.mono (fun _ _ q => .inr (.inr q)))).narrow Nat.one_pos (fun _ _ q => .inl q), (hE1.trans hx12).keepNew P.2 (fun i q => by omega)⟩
end K55
namespace P6
open P5 K35 K38
theorem fsOf_app (files : List FileM) (x : FileM) (M : List (ByteArray × Nat)) (h : ∀ p ∈ M, p.2 < files.length) : fsOf (files ++ [x]) M = fsOf files M := by
 refine List.map_congr_left fun p hp => ?_
 rw [List.getD_eq_getElem?_getD, List.getD_eq_getElem?_getD, List.getElem?_append_left (h p hp)]
theorem fsOf_put (files : List FileM) (n : ByteArray) (i : Nat) (M : List (ByteArray × Nat)) : fsOf files (putA n i M) = putA n (files.getD i ([], 0)) (fsOf files M) := put_map (fun i => files.getD i ([], 0)) n i M
theorem fsOf_del (files : List FileM) (n : ByteArray) (M : List (ByteArray × Nat)) : fsOf files (delA n M) = delA n (fsOf files M) := del_map (fun i => files.getD i ([], 0)) n M
theorem used_new (files : List FileM) (n : ByteArray) (M : List (ByteArray × Nat)) (hM : SrtA M) (h : ∀ p ∈ M, p.2 < files.length) (hn : getA n M = none) : used (fsOf (files ++ [([], 0)]) (putA n files.length M)) = used (fsOf files M) := by
 have hg : getA n (fsOf (files ++ [([], 0)]) M) = none := by rw [getA_fsOf, hn]; rfl
 have ht := total_put (fun f : FileM => f.1.length) n ((files ++ [([], 0)]).getD files.length ([], 0)) (fsOf (files ++ [([], 0)]) M) (fsOf_srt hM)
 rw [hg] at ht
 have hx : (files ++ [(([], 0) : FileM)]).getD files.length ([], 0) = ([], 0) := by simp [List.getD_eq_getElem?_getD]
 rw [hx] at ht
 rw [used, fsOf_put, hx, used]
 rw [fsOf_app files _ M h] at ht ⊢
 simpa using ht
theorem del_cons {β : Type} (n m : ByteArray) (y : β) (l : List (ByteArray × β)) (h : ¬ m = n) : delA n ((m, y) :: l) = (m, y) :: delA n l := by
 unfold delA
 rw [List.filter_cons, if_pos (by exact decide_eq_true h)]
theorem del_self {β : Type} (n : ByteArray) (y : β) (l : List (ByteArray × β)) : delA n ((n, y) :: l) = delA n l := by
 unfold delA
 rw [List.filter_cons, if_neg (by simp)]
theorem del_none {β : Type} {n : ByteArray} {l : List (ByteArray × β)} (h : getA n l = none) : delA n l = l := by
 rw [delA, List.filter_eq_self]
 intro q hq
 have := getA_none.1 h
 simp only [ne_eq, decide_not, Bool.not_eq_eq_eq_not, Bool.not_true, decide_eq_false_iff_not]
 intro e2
 exact this (List.mem_map.2 ⟨q, hq, e2⟩)
theorem del_put (n : ByteArray) {β : Type} (x : β) (l : List (ByteArray × β)) (h : getA n l = none) : delA n (putA n x l) = l := by
 induction l with
 | nil => exact del_self n x []
 | cons p l ih =>
   obtain ⟨m, y⟩ := p
   have hg := h
   rw [getA] at h
   by_cases e : n = m
   · rw [if_pos e] at h; cases h
   · rw [if_neg e] at h
     have e' : ¬ m = n := fun q => e q.symm
     rw [putA, if_neg e]
     by_cases g : ltN n m
     · rw [if_pos g, del_self, del_none hg]
     · rw [if_neg g, del_cons _ _ _ _ e', ih h]
end P6
namespace K56
open Go Go.RowKit Go.Maps
open KB KB2 KB3 K1 K6 P5 P6 K24 K25 K31 K34 K35 K36 K38 K42 K43 K44 K46 K50 K51 K53 K54 K55
set_option linter.unusedSectionVars false
theorem set_last {α : Type} (l : List α) (x y : α) : (l ++ [x]).set l.length y = l ++ [y] := by simp
theorem get_last {α : Type} (l : List α) (x : α) : (l ++ [x])[l.length]? = some x := by simp
def saved (D : Dsk) (b : List Int) : Nat → Dsk
 | 0 => D
 | 1 => D
 | 2 => { D with steps := D.steps + 1, lim := D.lim + 3, files := D.files ++ [([], 0)], M := putA newS D.files.length D.M, clean := false }
 | 3 => { D with steps := D.steps + 2, lim := D.lim + 4, files := D.files ++ [((b, 0) : FileM)], M := putA newS D.files.length D.M, clean := false }
 | 4 => { D with steps := D.steps + 3, lim := D.lim + 5, files := D.files ++ [((b, (b.length : Int)) : FileM)], M := putA newS D.files.length D.M, clean := false }
 | 5 => { D with steps := D.steps + 4, lim := D.lim + 7, files := D.files ++ [((b, (b.length : Int)) : FileM)], M := putA logS D.files.length D.M, clean := false }
 | _ => { D with steps := D.steps + 5, lim := D.lim + 8, files := D.files ++ [((b, (b.length : Int)) : FileM)], M := putA logS D.files.length D.M, clean := true }
theorem saveC (F : Nat → Prop) (dg mg : Nat) (D : Dsk) (w : World) (h : DiskAt F w dg mg D) (hl : D.lim + 12 ≤ 100000) (hF : ∀ k, F k → k < w.heap.size) (s : Sch) (hs : s.Ok) (A Ai : Option Addr) (c ci : Nat) (ids : List Int) (next : Nat)
   (hA : SchAt (DF F dg mg) w A c s) (hi : (rdInt .i64).Sl (DF F dg mg) w Ai ci ids) (hn : ids.length ≤ 40) (hv : ∀ n ∈ ids, 0 ≤ n ∧ n ≤ 999999) (hnx : next ≤ 999999) (hM : D.M.length < 200) (hno : getA newS D.M = none) (hem : getA emp D.M = none)
   (b : List Int) (hbb : b = recHead s ids next) (hu : used D.fs + b.length ≤ D.quota) (hb7 : b.length ≤ 10000000) :
   Calls Tryz.prog 39 #[BX dg, stV A c s Ai ci ids next] w fun e w' => e = .returned (.int .i64 0) ∧ DiskAt F w' dg mg (saved D b 6) ∧ Keep (Two' dg mg) w w' := by
 have hlt := h.lt
 have hDF := DFlt h hF
 have hx0 := bN w (.cells #[BX dg] 28)
 have hx := bO2 (o' := .cells #[.slice A s.types.length c, .int .i64 s.keys, .int .i64 s.mode, .int .i64 s.grain, .slice Ai ids.length ci, .int .i64 next] 82) hx0
 have hE1 := ((Ext.refl w).alloc (.cells #[BX dg] 28)).alloc (.cells #[.slice A s.types.length c, .int .i64 s.keys, .int .i64 s.mode, .int .i64 s.grain, .slice Ai ids.length ci, .int .i64 next] 82)
 have hhd := headC (DF F dg mg) A Ai c ci s ids next _ (hi.ext hE1) (by omega) (FExt hDF hE1)
 have hput := fun W (hE : Ext w W) (Ai' : Option Addr) (ci' : Nat) (hi' : (rdInt .i64).Sl (DF F dg mg) W Ai' ci' ids) => putHeadC (DF F dg mg) A Ai' c ci' s ids next hnx W (Rd.Sl.ext hA hE) hs hi' hn hv (FExt hDF hE)
 rw [← hbb] at hput
 clear hbb
 go_enter Tryz.func39, Tryz.ntmps39
 go_wp2_with (first | (go_at_call 90; refine hhd.mono ?_; rintro e w1 ⟨A', c', rfl, hi1, hEh⟩; have hE2 := hE1.trans hEh) | (go_at_call 89; refine (hput _ hE2 A' c' hi1).mono ?_; rintro e w2 ⟨A3, c3, rfl, hb, hEp⟩; have q0 := bC (bO2 (o' := .cells #[.slice A3 b.length c3] 120) ((hEh.trans hEp).blk hx)) 0))
 have hEw := hE2.trans hEp
 have hn1 := bN w2 (.cells #[.slice A3 b.length c3] 120)
 have hn := bO2 (o' := (.cells #[.func (.func 91) #[] #[BX w.heap.size], .func (.func 94) #[] #[BX w.heap.size], .func (.func 95) #[] #[BX w.heap.size, BX w2.heap.size], .func (.func 96) #[] #[BX w.heap.size], .func (.func 97) #[] #[BX w.heap.size], .func (.func 72) #[BX dg] #[]] 151)) hn1
 have hL := bN (w2.alloc (.cells #[.slice A3 b.length c3] 120)) (.cells #[.func (.func 91) #[] #[BX w.heap.size], .func (.func 94) #[] #[BX w.heap.size], .func (.func 95) #[] #[BX w.heap.size, BX w2.heap.size], .func (.func 96) #[] #[BX w.heap.size], .func (.func 97) #[] #[BX w.heap.size], .func (.func 72) #[BX dg] #[]] 151)
 rw [World.size_alloc] at hL
 have hE5 := ((Ext.refl w2).alloc (.cells #[.slice A3 b.length c3] 120)).alloc (.cells #[.func (.func 91) #[] #[BX w.heap.size], .func (.func 94) #[] #[BX w.heap.size], .func (.func 95) #[] #[BX w.heap.size, BX w2.heap.size], .func (.func 96) #[] #[BX w.heap.size], .func (.func 97) #[] #[BX w.heap.size], .func (.func 72) #[BX dg] #[]] 151)
 have hxw := ((hEh.trans hEp).trans hE5).blk hx
 have hs1 := hEw.size
 generalize ((w2.alloc (.cells #[.slice A3 b.length c3] 120)).alloc (.cells #[.func (.func 91) #[] #[BX w.heap.size], .func (.func 94) #[] #[BX w.heap.size], .func (.func 95) #[] #[BX w.heap.size, BX w2.heap.size], .func (.func 96) #[] #[BX w.heap.size], .func (.func 97) #[] #[BX w.heap.size], .func (.func 72) #[BX dg] #[]] 151)) = w5 at *
 have hA5 : rdFn.Sl (Two' dg mg) w5 (some ⟨w2.heap.size + 1, 0, none⟩) 6 [⟨91, #[], #[BX w.heap.size]⟩, ⟨94, #[], #[BX w.heap.size]⟩, ⟨95, #[], #[BX w.heap.size, BX w2.heap.size]⟩, ⟨96, #[], #[BX w.heap.size]⟩, ⟨97, #[], #[BX w.heap.size]⟩, ⟨72, #[BX dg], #[]⟩] := lit_one rfl hL (by rintro (e | e) <;> omega) rfl (by simp [maxLen]) (fun k x hk => by
   match k, hk with
   | 0, hk => cases hk; exact ⟨_, rfl, rfl⟩
   | 1, hk => cases hk; exact ⟨_, rfl, rfl⟩
   | 2, hk => cases hk; exact ⟨_, rfl, rfl⟩
   | 3, hk => cases hk; exact ⟨_, rfl, rfl⟩
   | 4, hk => cases hk; exact ⟨_, rfl, rfl⟩
   | 5, hk => cases hk; exact ⟨_, rfl, rfl⟩
   | k + 6, hk => simp at hk)
 have hD5 := h.ext (hEw.trans hE5)
 have hb5 := hb.ext hE5
 have hF5 := FExt hF (hEw.trans hE5)
 have hidx := h.idx
 have hsrt : SrtA D.M := by
   obtain ⟨Af, cf, kg, Ac, cc, chs, K, hb, h1, h2, h3, rest⟩ := h.at_
   exact h3.srt
 have hun : used (fsOf (D.files ++ [([], 0)]) (putA newS D.files.length D.M)) = used D.fs := used_new D.files newS D.M hsrt hidx hno
 have hgn : getA newS (putA newS D.files.length D.M) = some D.files.length := by rw [getA_put, if_pos rfl]
 have hgl : ∀ x : FileM, (D.files ++ [x])[D.files.length]? = some x := get_last _
 have hsl : ∀ x y : FileM, (D.files ++ [x]).set D.files.length y = D.files ++ [y] := set_last _
 have hall := allC (Two' dg mg) _ 6 _ (fun k W => DiskAt F W dg mg (saved D b k)) w5 hA5 (by simp) hD5 (fun k hk W kW hP => by
   have hFW : ∀ k, F k → k < W.heap.size := fun k q => Nat.lt_of_lt_of_le (hF5 k q) kW.size
   have hxW := kW.blk (by rintro (e | e) <;> omega) hxw
   match k, hk with
   | 0, _ => exact (save1C F dg mg D W hP (by omega) hFW w.heap.size hxW hno).mono fun e w' ⟨h1, h2⟩ => ⟨h1, hP.ext h2, h2.keep _⟩
   | 1, _ => exact save2C F dg mg D W hP (by omega) hFW w.heap.size hxW hM hno hem
   | 2, _ =>
     refine (save3C F dg mg (saved D b 2) W hP (by show D.lim + 3 + 3 ≤ _; omega) hFW w.heap.size hxW D.files.length hgn [] 0 (hgl _) A3 c3 b (hb5.keep (kW.mono (fun _ _ q => .inr q))) (by show used (fsOf (D.files ++ [([], 0)]) (putA newS D.files.length D.M)) + b.length ≤ D.quota; rw [hun]; exact hu) (by simpa using hb7) w2.heap.size (kW.blk (by rintro (e | e) <;> omega) hn)).mono ?_
     rintro e w' ⟨h1, h2, h3⟩
     refine ⟨h1, ?_, h3⟩
     have h2' : DiskAt F w' dg mg { saved D b 3 with files := (D.files ++ [([], 0)]).set D.files.length ([] ++ b, 0) } := h2
     rw [hsl] at h2'
     exact h2'
   | 3, _ =>
     refine (save4C F dg mg (saved D b 3) W hP (by show D.lim + 4 + 3 ≤ _; omega) hFW w.heap.size hxW D.files.length hgn b 0 (hgl _)).mono ?_
     rintro e w' ⟨h1, h2, h3⟩
     refine ⟨h1, ?_, h3⟩
     have h2' : DiskAt F w' dg mg { saved D b 4 with files := (D.files ++ [((b, 0) : FileM)]).set D.files.length (b, (b.length : Int)) } := h2
     rw [hsl] at h2'
     exact h2'
   | 4, _ =>
     refine (save5C F dg mg (saved D b 4) W hP (by show D.lim + 5 + 3 ≤ _; omega) hFW w.heap.size hxW D.files.length hgn).mono ?_
     rintro e w' ⟨h1, h2, h3⟩
     refine ⟨h1, ?_, h3⟩
     have h2' : DiskAt F w' dg mg { saved D b 5 with M := putA logS D.files.length (delA newS (putA newS D.files.length D.M)) } := h2
     rw [del_put _ _ _ hno] at h2'
     exact h2'
   | 5, _ => exact syncDirC F dg mg (saved D b 5) W hP (by show D.lim + 7 + 1 ≤ _; omega) hFW
   | k + 6, hk => simp at hk; omega) (fun k hk => by
   match k, hk with
   | 0, _ => exact fun _ _ => rfl
   | 1, _ => exact fun _ _ => rfl
   | 2, _ => exact fun _ _ => rfl
   | 3, _ => exact fun _ _ => rfl
   | 4, _ => exact fun _ _ => rfl
   | 5, _ => exact fun _ _ => rfl
   | k + 6, hk => simp at hk; omega)
 clear hno hem h hput hD5 hidx hsrt hun hgn hgl hsl hhd
 refine hall.mono ?_; rintro e w6 ⟨rfl, hD6, k6⟩
 go_wp2
 go_ret
 exact ⟨rfl, hD6, ((hEw.trans hE5).keep _).trans k6⟩
end K56
namespace K58
open Go Go.RowKit
open KB KB2 KB3 K1 P5 K31 K34 K35 K42 K50 K51 K53 K54 K57
theorem containsS (F : Nat → Prop) (A : Option Addr) (c : Nat) (l : List ByteArray) (n : ByteArray) (w : World) (hA : rdStr.Sl F w A c l) (hn : l.length ≤ 1000000) :
   Calls Tryz.prog 67 #[.slice A l.length c, .string n] w fun e w' => (∃ f : Bool, e = .returned (.bool f) ∧ (f = true ↔ n ∈ l)) ∧ w' = w := by
 cases l with
 | nil => exact (Tryz.slices_Contains_string_empty A c n w).mono fun e w' ⟨h1, h2⟩ => ⟨⟨false, h1, by simp⟩, h2⟩
 | cons x l =>
   obtain ⟨b, o, rfl, _⟩ := str_get hA (k := 0) (by simp)
   refine (Tryz.slices_Contains_string b o (x :: l).length c (x :: l) n w (Nat.le_refl _) (by omega) (fun j hj => ?_)).mono ?_
   · obtain ⟨b', o', e, hc⟩ := str_get hA hj
     simp only [Option.some.injEq, Addr.mk.injEq, and_true] at e
     obtain ⟨rfl, rfl⟩ := e
     rw [hc, List.getD_eq_getElem?_getD, List.getElem?_eq_getElem hj]; rfl
   · rintro e w' ⟨rfl, rfl⟩
     rw [List.take_length]
     exact ⟨⟨_, rfl, Lib.containsS_iff _ _⟩, rfl⟩
def stays (ids : List Int) : List ByteArray := logS :: ids.map fun n => nameS n.toNat
theorem sweepC (F : Nat → Prop) (dg mg : Nat) (D : Dsk) (w : World) (h : DiskAt F w dg mg D) (hF : ∀ k, F k → k < w.heap.size) (s : Sch) (A Ai : Option Addr) (c ci : Nat) (ids : List Int) (next : Int)
   (hi : (rdInt .i64).Sl F w Ai ci ids) (hn : ids.length ≤ 1000) (hid : ∀ n ∈ ids, 0 ≤ n ∧ n < 100) (hst : ∀ n ∈ D.M.map (·.1), n ∈ stays ids) :
   Calls Tryz.prog 40 #[BX dg, stV A c s Ai ci ids next] w fun e w' => e = .returned (.int .i64 0) ∧ Ext w w' := by
 have hx0 := bN w (.cells #[BX dg] 28)
 have hx := bO2 (o' := .cells #[.slice A s.types.length c, .int .i64 s.keys, .int .i64 s.mode, .int .i64 s.grain, .slice Ai ids.length ci, .int .i64 next] 82) hx0
 have hy := bN (w.alloc (.cells #[BX dg] 28)) (.cells #[.slice A s.types.length c, .int .i64 s.keys, .int .i64 s.mode, .int .i64 s.grain, .slice Ai ids.length ci, .int .i64 next] 82)
 have hEB := ((Ext.refl w).alloc (.cells #[BX dg] 28)).alloc (.cells #[.slice A s.types.length c, .int .i64 s.keys, .int .i64 s.mode, .int .i64 s.grain, .slice Ai ids.length ci, .int .i64 next] 82)
 have hsB : ((w.alloc (.cells #[BX dg] 28)).alloc (.cells #[.slice A s.types.length c, .int .i64 s.keys, .int .i64 s.mode, .int .i64 s.grain, .slice Ai ids.length ci, .int .i64 next] 82)).heap.size = w.heap.size + 1 + 1 := by simp
 simp only [World.size_alloc] at hy
 clear hx0
 have hlen : ∀ k, (stays (ids.take k)).length ≤ 1001 := fun k => by simp [stays]; omega
 go_enter Tryz.func40, Tryz.ntmps40
 go_wp2_with (fail)
 generalize ((w.alloc (.cells #[BX dg] 28)).alloc (.cells #[.slice A s.types.length c, .int .i64 s.keys, .int .i64 s.mode, .int .i64 s.grain, .slice Ai ids.length ci, .int .i64 next] 82)) = wB at *
 rw [← hsB]
 have hLit := bN wB (.cells #[.string logS] 9)
 have hE1 := (Ext.refl wB).alloc (.cells #[.string logS] 9)
 have hown0 : rdStr.Own F wB.heap.size 9 (wB.alloc (.cells #[.string logS] 9)) (.slice (some ⟨wB.heap.size, 0, none⟩) 1 1) (stays (ids.take 0)) := by
   refine ⟨[.string logS], ⟨rfl, .inr ⟨wB.heap.size, 1, #[.string logS], rfl, Nat.le_refl _, hLit, Nat.le_refl _, by unfold maxLen; omega, rfl, rfl⟩⟩, fun k x hk => ?_⟩
   have hs0 : stays (ids.take 0) = [logS] := rfl
   rw [hs0] at hk
   have hk0 : k = 0 := by have := (List.getElem?_eq_some_iff.1 hk).1; simp at this; omega
   subst hk0
   cases hk
   rfl
 generalize (wB.alloc (.cells #[.string logS] 9)) = w1 at *
 have hiB := hi.ext hEB
 have hDB := h.ext hEB
 have hFB := FExt hF hEB
 clear hLit hsB hi
 go_loopw [5, 7, 15] (fun v _ i wr => ∃ k : Nat, i = .int .i64 k ∧ k ≤ ids.length ∧ rdStr.Own F wB.heap.size 9 wr v (stays (ids.take k)) ∧ Ext wB wr) (fun _ _ i _ => ids.length - (intOf i).toNat)
 case atStart => exact ⟨0, by go_num, Nat.zero_le _, hown0, hE1⟩
 case round =>
   obtain ⟨k, rfl, hkl, hown, hE⟩ := hrel
   by_cases hlt : k < ids.length
   · obtain ⟨b, o, rfl, hc⟩ := int_get hiB hlt
     replace hc := hE.cell hc
     obtain ⟨hk0, hk1⟩ := hid _ (List.getElem_mem hlt)
     have hkn : ids[k] = ((ids[k].toNat : Nat) : Int) := by omega
     rw [hkn] at hc
     have hnm := nameC ids[k].toNat (by omega) wr
     have hst1 : stays (ids.take (k + 1)) = stays (ids.take k) ++ [nameS ids[k].toNat] := by show logS :: List.map _ (ids.take (k + 1)) = _; rw [take_snoc _ hlt, List.map_append]; rfl
     have HL := As.mk (hlen k)
     generalize ids[k].toNat = m at *
     have hlit := heap_alloc_new wr (.cells #[.string (nameS m)] 9)
     go_wp2_with (first | (go_at_call 63; refine hnm.mono ?_; rintro e w2 ⟨rfl, hw2⟩; rw [hw2]; clear hw2) | (at_builtin; refine wpList_push rfl _ _ _ rfl rdStr elStr rfl (hown.ext ((Ext.refl wr).alloc _)) rfl hlit (y := nameS m) rfl (by have := HL.out; omega) (by have := HL.out; unfold maxLen; omega) (by have := hE.size; simp; omega) (hE.alloc _) ?_; intro v' w2 hown2 hg2 hE2))
     rw [← hst1] at hown2
     go_roundw
     case rel => exact ⟨k + 1, by go_num, by omega, hown2, hE2⟩
     case measure => simp [intOf] <;> omega
   · obtain rfl : k = ids.length := by omega
     rw [List.take_length] at hown
     obtain ⟨A', c', rfl, hs⟩ := hown.shut hFB
     have xr := bC (hE.blk hx) 0
     have hN := namesC F dg mg D wr (hDB.ext hE) (FExt hFB hE)
     have hNl : (D.M.map (·.1)).length ≤ 100000 := by rw [List.length_map]; have := h.ml; have := h.le; omega
     generalize D.M.map (·.1) = l at *
     have hsl : (stays ids).length ≤ 1001 := by simp [stays]; omega
     clear h hDB hlen hown0 hown
     go_wp2_with (first | (go_at_call 68; refine hN.mono ?_; rintro e w2 ⟨A2, c2, rfl, hA2, hE2⟩))
     go_loopw [8, 10, 28] (fun v _ i w3 => ∃ k : Nat, i = .int .i64 k ∧ k ≤ l.length ∧ v = .slice none 0 0 ∧ Ext w2 w3) (fun _ _ i _ => l.length - (intOf i).toNat)
     case atStart => exact ⟨0, by go_num, Nat.zero_le _, rfl, Ext.refl _⟩
     case round =>
       obtain ⟨k, rfl, hkl, rfl, hE3⟩ := hrel
       by_cases hlt : k < l.length
       · obtain ⟨b, o, rfl, hc⟩ := str_get hA2 hlt
         replace hc := hE3.cell hc
         have hin := hst _ (List.getElem_mem hlt)
         have hcon := containsS F A' c' (stays ids) l[k] (wr.alloc (.cells #[.string l[k]] 9)) (((hs.ext hE2).ext hE3).ext ((Ext.refl wr).alloc _)) (by omega)
         go_wp2_with (first | (go_at_call 67; refine hcon.mono ?_; rintro e w4 ⟨⟨f, rfl, hf⟩, hw4⟩; rw [hw4]; clear hw4; obtain rfl : f = true := hf.2 hin))
         go_roundw
         case rel => exact ⟨k + 1, by go_num, by omega, rfl, hE3.alloc _⟩
         case measure => simp [intOf] <;> omega
       · obtain rfl : k = l.length := by omega
         have ha := allC (fun _ => False) none 0 [] (fun _ _ => True) wr (Rd.Sl.nil0 _ _ _) (by simp) trivial (fun k hk => by simp at hk) (fun k hk => by simp at hk)
         go_wp2_with (first | (go_at_call 93; refine ha.mono ?_; rintro e w4 ⟨rfl, _, k4⟩))
         go_ret
         exact ⟨rfl, (((hEB.trans hE).trans hE2).trans hE3).keepNew k4 (fun i q => q.elim)⟩
end K58
namespace K59
open Go Go.RowKit
open KB KB2 K1
def may (n f t : Nat) : Bool := decide (t ≤ n ∧ f + 2 ≤ t)
theorem mayC (n f t : Nat) (hn : n ≤ 1000) (hf : f ≤ 1000) (ht : t ≤ 1000) (w : World) : Calls Tryz.prog 31 #[.int .i64 n, .int .i64 f, .int .i64 t] w fun e w' => e = .returned (.bool (may n f t)) ∧ w' = w := by
 have d0 : decide ((0 : Int) ≤ (f : Int)) = true := decide_eq_true (by omega)
 by_cases h1 : t ≤ n
 · have d1 : decide ((t : Int) ≤ (n : Int)) = true := decide_eq_true (by omega)
   by_cases h2 : f < t
   · have d2 : decide ((f : Int) < (t : Int)) = true := decide_eq_true (by omega)
     have hw : IntKind.i64.wrap ((t : Int) - (f : Int)) = (t : Int) - f := by rw [IntKind.wrap_i64]; omega
     by_cases h3 : f + 2 ≤ t
     · have d3 : decide ((2 : Int) ≤ (t : Int) - (f : Int)) = true := decide_eq_true (by omega)
       have hm : may n f t = true := decide_eq_true ⟨h1, h3⟩
       rw [hm]
       go_enter Tryz.func31, Tryz.ntmps31
       go_wp2
       go_ret
       exact ⟨rfl, rfl⟩
     · have d3 : decide ((2 : Int) ≤ (t : Int) - (f : Int)) = false := decide_eq_false (by omega)
       have hm : may n f t = false := decide_eq_false (fun q => h3 q.2)
       rw [hm]
       go_enter Tryz.func31, Tryz.ntmps31
       go_wp2
       go_ret
       exact ⟨rfl, rfl⟩
   · have d2 : decide ((f : Int) < (t : Int)) = false := decide_eq_false (by omega)
     have hm : may n f t = false := decide_eq_false (fun q => by omega)
     rw [hm]
     go_enter Tryz.func31, Tryz.ntmps31
     go_wp2
     go_ret
     exact ⟨rfl, rfl⟩
 · have d1 : decide ((t : Int) ≤ (n : Int)) = false := decide_eq_false (by omega)
   have hm : may n f t = false := decide_eq_false (fun q => by omega)
   rw [hm]
   go_enter Tryz.func31, Tryz.ntmps31
   go_wp2
   go_ret
   exact ⟨rfl, rfl⟩
theorem mm (W : World) (a : Int) (h : 0 ≤ a) : (Builtin.max_ #[3, 3] 3 #[.int .i64 a, .int .i64 0]).run Tryz.prog W = .ok (.int .i64 a) W := by
 have e1 : ¬ 0 > a := by omega
 simp [Builtin.max_, Builtin.max2, e1]
theorem mn (W : World) (a : Int) (h : a ≤ 1048576) : (Builtin.min_ #[3, 3] 3 #[.int .i64 a, .int .i64 1048576]).run Tryz.prog W = .ok (.int .i64 a) W := by
 have e1 : ¬ a > 1048576 := by omega
 by_cases e2 : (1048576 : Int) < a
 · omega
 · simp [Builtin.min_, Builtin.min2, e2]
theorem countC (F : Nat → Prop) (A : Option Addr) (c : Nat) (l : List Int) (w : World) (hA : (rdInt .i64).Sl F w A c l) (hv : ∀ n ∈ l, 0 ≤ n ∧ n ≤ 1048576) (k : Nat) (hk : k < l.length) (bx : Nat) (hb : w.cell? ⟨bx, 0, none⟩ = some (.slice A l.length c)) :
   Calls Tryz.prog 78 #[.int .i64 k, .pointer (some ⟨bx, 0, none⟩)] w fun e w' => e = .returned (.int .i64 l[k]) ∧ w' = w := by
 obtain ⟨b, o, rfl, hc⟩ := int_get hA hk
 obtain ⟨h0, h1⟩ := hv _ (List.getElem_mem hk)
 have hmx := fun W => mm W l[k] h0
 have hmn := fun W => mn W l[k] h1
 go_enter Tryz.func78, Tryz.ntmps78
 go_wp2
 go_ret
 exact ⟨rfl, rfl⟩
theorem pickC (F : Nat → Prop) (A : Option Addr) (c : Nat) (l : List Int) (w : World) (hA : (rdInt .i64).Sl F w A c l) (hv : ∀ n ∈ l, 0 ≤ n ∧ n ≤ 1048576) (hn : l.length ≤ 1000) :
   Calls Tryz.prog 30 #[.slice A l.length c] w fun e w' => (∃ f t : Nat, e = .returned (.tuple #[.int .i64 f, .int .i64 t]) ∧ f ≤ t ∧ t ≤ l.length) ∧ Ext w w' := by
 have hE := (Ext.refl w).alloc (.cells #[.slice A l.length c] 25)
 have hb := bC (bN w (.cells #[.slice A l.length c] 25)) 0
 have hA1 := hA.ext hE
 have hb' : (w.alloc (.cells #[.slice A l.length c] 25)).cell? ⟨w.heap.size, 0, none⟩ = some (.slice A l.length c) := hb
 have hcnt := fun k hk => countC F A c l _ hA1 hv k hk w.heap.size hb'
 by_cases h2 : l.length < 2
 · have d0 : decide ((l.length : Int) < 2) = true := decide_eq_true (by omega)
   go_enter Tryz.func30, Tryz.ntmps30
   go_wp2
   go_returns
   exact ⟨⟨0, 0, rfl, Nat.le_refl _, Nat.zero_le _⟩, hE⟩
 · have d0 : decide ((l.length : Int) < 2) = false := decide_eq_false (by omega)
   have hw1 : IntKind.i64.wrap ((l.length : Int) - 1) = (l.length : Int) - 1 := by rw [IntKind.wrap_i64]; omega
   go_enter Tryz.func30, Tryz.ntmps30
   go_wp2_with (fail)
   generalize (w.alloc (.cells #[.slice A l.length c] 25)) = w1 at *
   go_loopw [2, 5, 6, 7, 15] (fun from_ least _ _ i wr => ∃ k f s : Nat, i = .int .i64 k ∧ k + 1 ≤ l.length ∧ from_ = .int .i64 f ∧ f + 2 ≤ l.length ∧ least = .int .i64 s ∧ s ≤ 2097153 ∧ wr = w1) (fun _ _ _ _ i _ => l.length - (intOf i).toNat)
   case atStart => exact ⟨0, 0, 2097153, by go_num, by omega, by go_num, by omega, by go_num, Nat.le_refl _, rfl⟩
   case round =>
     obtain ⟨k, f, s, rfl, hk, rfl, hf, rfl, hs, rfl⟩ := hrel
     by_cases hlt : k + 1 < l.length
     · have hc0 := hcnt k (by omega)
       have hc1 := hcnt (k + 1) hlt
       obtain ⟨p0, p1⟩ := hv _ (List.getElem_mem (show k < l.length by omega))
       obtain ⟨q0, q1⟩ := hv _ (List.getElem_mem hlt)
       generalize l[k] = x at *
       generalize l[k + 1] = y at *
       have dk : decide ((k : Int) < (l.length : Int) - 1) = true := decide_eq_true (by omega)
       go_wp2_with (fail)
       refine hc0.mono ?_; rintro e w2 ⟨rfl, hw⟩; rw [hw]; clear hw
       go_wp2_with (fail)
       refine hc1.mono ?_; rintro e w2 ⟨rfl, hw⟩; rw [hw]; clear hw
       have hxy : IntKind.i64.wrap (x + y) = x + y := by rw [IntKind.wrap_i64]; omega
       by_cases hlt2 : x + y < (s : Int)
       · have dd : decide (x + y < (s : Int)) = true := decide_eq_true hlt2
         go_wp2
         go_roundw
         case rel => exact ⟨k + 1, k, (x + y).toNat, by go_num, by omega, rfl, by omega, by congr 1; omega, by omega, trivial⟩
         case measure => simp [intOf] <;> omega
       · have dd : decide (x + y < (s : Int)) = false := decide_eq_false hlt2
         go_wp2
         go_roundw
         case rel => exact ⟨k + 1, f, s, by go_num, by omega, rfl, hf, rfl, hs, trivial⟩
         case measure => simp [intOf] <;> omega
     · have dk : decide ((k : Int) < (l.length : Int) - 1) = false := decide_eq_false (by omega)
       go_wp2_with (fail)
       go_loopw [3, 5] (fun to_ least w3 => ∃ (t : Nat) (s2 : Nat), to_ = .int .i64 t ∧ f + 2 ≤ t ∧ t ≤ l.length ∧ least = .int .i64 s2 ∧ s2 ≤ 2097153 + t * 1048576 ∧ w3 = wr) (fun to_ _ _ => l.length - (intOf to_).toNat)
       case atStart => exact ⟨f + 2, s, by go_num, Nat.le_refl _, hf, rfl, by omega, rfl⟩
       case round =>
         obtain ⟨t, s2, rfl, ht, htl, rfl, hs2, hww⟩ := hrel
         subst hww
         by_cases hlt3 : t < l.length
         · have hc0 := hcnt t hlt3
           obtain ⟨p0, p1⟩ := hv _ (List.getElem_mem hlt3)
           generalize l[t] = x at *
           have hxy : IntKind.i64.wrap ((s2 : Int) + x) = s2 + x := by rw [IntKind.wrap_i64]; omega
           by_cases hle : x ≤ (s2 : Int)
           · have dd : decide (x ≤ (s2 : Int)) = true := decide_eq_true hle
             go_wp2_with (first | (go_at_call 78; refine hc0.mono ?_; rintro e w4 ⟨rfl, hw⟩; rw [hw]; clear hw))
             go_roundw
             case rel => exact ⟨t + 1, (s2 + x).toNat, by go_num, by omega, by omega, by congr 1; omega, by omega, trivial⟩
             case measure => simp [intOf] <;> omega
           · have dd : decide (x ≤ (s2 : Int)) = false := decide_eq_false hle
             go_wp2_with (first | (go_at_call 78; refine hc0.mono ?_; rintro e w4 ⟨rfl, hw⟩; rw [hw]; clear hw))
             go_returns
             exact ⟨⟨f, t, rfl, by omega, htl⟩, hE⟩
         · go_wp2_with (fail)
           go_returns
           exact ⟨⟨f, t, rfl, by omega, htl⟩, hE⟩
end K59
namespace K60
open Go Go.RowKit
open KB KB2 K1 K9
theorem filterMay0 (A : Option Addr) (c : Nat) (s : Sch) (w : World) : Calls Tryz.prog 112 #[schV A c s, .slice none 0 0] w fun e w' => e = .returned (.bool true) ∧ Ext w w' := by
 go_enter Tryz.func112, Tryz.ntmps112
 go_wp2_with (fail)
 refine wp_loop_rounds 1 ?_
 rw [rounds_succ]
 go_wp2
 go_ret
 exact ⟨rfl, (Ext.refl w).alloc _⟩
theorem aggMay0 (A : Option Addr) (c : Nat) (s : Sch) (w : World) : Calls Tryz.prog 113 #[schV A c s, .slice none 0 0] w fun e w' => e = .returned (.bool true) ∧ Ext w w' := by
 go_enter Tryz.func113, Tryz.ntmps113
 go_wp2_with (fail)
 refine wp_loop_rounds 1 ?_
 rw [rounds_succ]
 go_wp2
 go_ret
 exact ⟨rfl, (Ext.refl w).alloc _⟩
end K60
namespace K61
open Go Go.RowKit
open KB KB2 K1 K9
theorem keep0 (F : Nat → Prop) (Ax : Option Addr) (cs : Nat) (s : Sch) (A : Option Addr) (c : Nat) (l : List Row) (w : World) (hA : rdRow.Sl F w A c l) (hn : l.length ≤ 1000000) (hF : ∀ k, F k → k < w.heap.size) :
   Calls Tryz.prog 117 #[schV Ax cs s, .slice none 0 0, .slice A l.length c] w fun e w' => ∃ A' c', e = .returned (.slice A' l.length c') ∧ rdRow.Sl F w' A' c' l ∧ Ext w w' := by
 have hE1 := (Ext.refl w).alloc (.cells #[.slice Ax s.types.length cs, .int .i64 s.keys, .int .i64 s.mode, .int .i64 s.grain] 27)
 go_enter Tryz.func117, Tryz.ntmps117
 go_wp2_with (fail)
 generalize (w.alloc (.cells #[.slice Ax s.types.length cs, .int .i64 s.keys, .int .i64 s.mode, .int .i64 s.grain] 27)) = w1 at *
 replace hA := hA.ext hE1
 have hF1 := FExt hF hE1
 go_step3
 go_wp2_with (fail)
 go_step3
 go_wp2_with (fail)
 go_loopw [7, 9, 11, 14] (fun v _ _ i wr => ∃ k : Nat, i = .int .i64 k ∧ k ≤ l.length ∧ rdRow.Own F w1.heap.size 41 wr v (l.take k) ∧ Ext w1 wr) (fun _ _ _ i _ => l.length - (intOf i).toNat)
 case atStart => exact ⟨0, by go_num, Nat.zero_le _, Rd.Own.nil _ _ _ _ _, Ext.refl _⟩
 case round =>
   obtain ⟨k, rfl, hkl, hown, hE⟩ := hrel
   by_cases hlt : k < l.length
   · obtain ⟨b, o, A2, c2, rfl, hc, hcr⟩ := sl_get (far0 rdRow (by decide) hA hown.ge) hlt
     replace hc := hE.cell hc
     have HT := As.mk (take_snoc l hlt)
     have HTL : As ((l.take k).length ≤ 1000000) := ⟨by rw [List.length_take]; omega⟩
     have hcr' := hcr.ext hE
     go_wp2_with (fail)
     refine wp_loop_rounds 1 ?_
     rw [rounds_succ]
     go_wp2_with (first | (at_builtin; refine wpList_push rfl _ _ _ rfl rdRow elRow rfl (hown.ext ((Ext.refl wr).alloc _)) rfl (heap_alloc_new wr _) (y := l[k]) (sl_Cn (hcr'.ext ((Ext.refl wr).alloc _)) rfl) (by have := HTL.out; omega) (by have := HTL.out; unfold maxLen; omega) (by have := hE.size; simp; omega) (hE.alloc _) ?_; intro v' w2 hown2 hg2 hE2))
     rw [← HT.out] at hown2
     go_roundw
     case rel => exact ⟨k + 1, by go_num, by omega, hown2, hE2⟩
     case measure => simp [intOf] <;> omega
   · obtain rfl : k = l.length := by omega
     rw [List.take_length] at hown
     obtain ⟨A', c', rfl, hs⟩ := hown.shut hF1
     go_wp2_with (fail)
     simp only [Exit.noGoto_ret]
     go_ret
     exact ⟨A', c', rfl, hs, hE1.trans hE⟩
end K61
end Go.Proofs.YtbjeejimedhniaaGreatDoor
