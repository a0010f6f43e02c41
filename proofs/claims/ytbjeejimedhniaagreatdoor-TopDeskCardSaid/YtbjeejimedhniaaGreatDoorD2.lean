/- Contracts of the program's functions, as the walks of the law use them. -/
import Derived.Test.YtbjeejimedhniaaGreatDoorD1
import Derived.ArgAppend
import Derived.Deep.RegionLawGrows
import Derived.Shelf.Strings.OnBuilder
import Derived.Shelf.Strconv.Itoa4
import Derived.Test.YtbjeejimedhniaaGreatDoorProg
set_option linter.unusedVariables false
set_option linter.unusedSimpArgs false
set_option maxRecDepth 100000
set_option maxHeartbeats 1000000
namespace Go.Proofs.YtbjeejimedhniaaGreatDoor
namespace K89
open Go Go.RowKit KB
abbrev BA (l : List UInt8) : ByteArray := ⟨l.toArray⟩
def hd (t : List UInt8) : List UInt8 := t.takeWhile (fun b => !(b == 32))
def tl (t : List UInt8) : List UInt8 := (t.dropWhile (fun b => !(b == 32))).drop 1
def trim (t : List UInt8) : List UInt8 := t.dropWhile (fun b => b == 32)
def wdsT : Nat → List UInt8 → List (List UInt8)
 | 0, _ => []
 | f + 1, t => if t = [] then [] else hd t :: wdsT f (trim (tl t))
def wds (l : List UInt8) : List (List UInt8) := wdsT l.length (trim l)
theorem indexByte_split (c : UInt8) : ∀ t : List UInt8, (Lib.indexByte t c = -1 ∧ t.takeWhile (fun b => !(b == c)) = t ∧ t.dropWhile (fun b => !(b == c)) = []) ∨
   (∃ i : Nat, Lib.indexByte t c = i ∧ i < t.length ∧ t.takeWhile (fun b => !(b == c)) = t.take i ∧ (t.dropWhile (fun b => !(b == c))).drop 1 = t.drop (i + 1))
 | [] => .inl ⟨rfl, rfl, rfl⟩
 | a :: t => by
   by_cases h : (a == c) = true
   · refine .inr ⟨0, by simp [Lib.indexByte, h], by simp, by simp [h], by simp [h]⟩
   · have h' : (a == c) = false := by simpa using h
     rcases indexByte_split c t with ⟨h1, h2, h3⟩ | ⟨i, h1, h2, h3, h4⟩
     · exact .inl ⟨by simp [Lib.indexByte, h', h1], by simp [h', h2], by simp [h', h3]⟩
     · have : ¬ ((i : Int) = -1) := by omega
       refine .inr ⟨i + 1, by simp [Lib.indexByte, h', h1, this], by simp; omega, by simp [h', h3], by simp [h', h4]⟩
theorem trim_len (t : List UInt8) : (trim t).length ≤ t.length := (List.dropWhile_sublist _).length_le
theorem tl_len (t : List UInt8) (h : t ≠ []) : (tl t).length < t.length := by
 unfold tl
 have h1 := (List.dropWhile_sublist (fun b : UInt8 => !(b == 32)) (l := t)).length_le
 have h2 : t.length ≠ 0 := fun q => h (List.eq_nil_of_length_eq_zero q)
 rw [List.length_drop]
 omega
theorem ba_data (s : ByteArray) : BA s.data.toList = s := by simp [BA]
theorem ext_pre (s : ByteArray) (i : Nat) : s.extract 0 i = BA (s.data.toList.take i) := by
 apply ByteArray.ext; apply Array.toList_inj.1; simp
theorem ext_suf (s : ByteArray) (i : Nat) : s.extract i s.size = BA (s.data.toList.drop i) := by
 apply ByteArray.ext; apply Array.toList_inj.1
 have h : s.data.toList.length = s.size := rfl
 simp only [ByteArray.data_extract, Array.toList_extract, List.extract, List.toList_toArray]
 exact List.take_of_length_le (by rw [List.length_drop, h]; exact Nat.le_refl _)
theorem cutC0 (s : ByteArray) (hs : s.size ≤ 1000000000) (w : World) : Calls Tryz.prog 185 #[.string s, .string ⟨#[32]⟩] w fun e w' => ∃ f, e = .returned (.tuple #[.string (BA (hd s.data.toList)), .string (BA (tl s.data.toList)), .bool f]) ∧ Ext w w' := by
 have HI := As.mk (Tryz.stringslite_Index_one s 32)
 rcases indexByte_split 32 s.data.toList with ⟨h1, h2, h3⟩ | ⟨i, h1, h2, h3, h4⟩
 · rw [h1] at HI
   go_enter Tryz.func185, Tryz.ntmps185
   go_wp2_with (fail)
   refine (HI.out _).mono ?_; rintro e w1 ⟨rfl, rfl⟩
   go_wp2_with (fail)
   refine bodyPost_ret (v := .tuple #[.string s, .string ⟨#[]⟩, .bool false]) (by simp [results, Tryz.results185, go_sem]) rfl ?_
   have e1 : hd s.data.toList = s.data.toList := h2
   have e2 : tl s.data.toList = [] := by unfold tl; rw [h3]; rfl
   exact ⟨false, by rw [e1, e2, ba_data], Ext.refl _⟩
 · rw [h1] at HI
   have hi : i < s.size := by simpa using h2
   go_enter Tryz.func185, Tryz.ntmps185
   go_wp2_with (fail)
   refine (HI.out _).mono ?_; rintro e w1 ⟨rfl, rfl⟩
   go_wp2_with (fail)
   go_region
   (try simp only [Exit.inBlock, Exit.then])
   go_wp2_with (fail)
   refine bodyPost_ret (v := .tuple #[.string (s.extract 0 i), .string (s.extract (i + 1) s.size), .bool true]) (by simp [results, Tryz.results185, go_sem]) rfl ?_
   have e1 : hd s.data.toList = s.data.toList.take i := h3
   have e2 : tl s.data.toList = s.data.toList.drop (i + 1) := h4
   exact ⟨true, by rw [e1, e2, ext_pre, ext_suf], (Ext.refl _).drew⟩
theorem cutC (s : ByteArray) (hs : s.size ≤ 1000000000) (w : World) : Calls Tryz.prog 104 #[.string s, .string ⟨#[32]⟩] w fun e w' => ∃ f, e = .returned (.tuple #[.string (BA (hd s.data.toList)), .string (BA (tl s.data.toList)), .bool f]) ∧ Ext w w' := by
 have HI := As.mk (cutC0 s hs w)
 go_enter Tryz.func104, Tryz.ntmps104
 go_wp2_with (fail)
 refine HI.out.mono ?_; rintro e w1 ⟨f, rfl, hE⟩
 go_wp2_with (fail)
 refine bodyPost_ret (v := .tuple #[.string (BA (hd s.data.toList)), .string (BA (tl s.data.toList)), .bool f]) (by simp [results, Tryz.results104, go_sem]) rfl ?_
 exact ⟨f, rfl, hE⟩
theorem elStr : El Tryz.prog 126 9 rdStr.sz 16 := El.mk (z := .string ⟨#[]⟩) Tryz.underlying126 (by kernel_rfl) rfl (by decide)
def NoMark (L : List (List UInt8)) : Prop := ∀ x ∈ L, x.head? ≠ some 34
theorem hd_head (t : List UInt8) (h : t ≠ []) (hb : t.head? ≠ some 32) : (hd t).head? = t.head? := by
 cases t with
 | nil => exact absurd rfl h
 | cons a t =>
   have : (a == 32) = false := by simpa using hb
   simp [hd, this]
theorem trim_head (t : List UInt8) : (trim t).head? ≠ some 32 := by
 induction t with
 | nil => simp [trim]
 | cons a t ih =>
   unfold trim at ih ⊢
   rw [List.dropWhile_cons]
   split
   · exact ih
   · rename_i h
     simpa using h
theorem wordsC (F : Nat → Prop) (line : ByteArray) (hs : line.size ≤ 1000000000) (w : World) (hq : NoMark (wds line.data.toList)) (hwl : (wds line.data.toList).length ≤ 100000) :
   Calls Tryz.prog 45 #[.string line] w fun e w' => ∃ v, e = .returned v ∧ rdStr.Own F w.heap.size 9 w' v ((wds line.data.toList).map BA) ∧ Ext w w' := by
 have HT := As.mk (fun s W => Tryz.strings_TrimLeft_one s 32 (by decide) W)
 have HC := As.mk (fun s W => Tryz.strings_CutPrefix s ⟨#[34]⟩ W)
 obtain ⟨L, hL⟩ : ∃ L, wds line.data.toList = L := ⟨_, rfl⟩
 rw [hL] at hq hwl ⊢
 have HL := KB.As.mk hL
 have hz : line.data.toList.length = line.size := rfl
 clear hL
 go_enter Tryz.func45, Tryz.ntmps45
 go_wp2_with (fail)
 refine (HT.out _ _).mono ?_; rintro e w1 ⟨rfl, rfl⟩
 go_wp2_with (fail)
 go_loopw [0, 3] (fun ln v wr => ∃ (f : Nat) (t : List UInt8) (done : List (List UInt8)), ln = .string (BA (trim t)) ∧ As (done ++ wdsT f (trim t) = L) ∧ (trim t).length ≤ f ∧ f ≤ line.size ∧ rdStr.Own F w1.heap.size 9 wr v (done.map BA) ∧ Ext w1 wr) (fun ln _ _ => match ln with | .string s => s.size | _ => 0)
 case atStart => exact ⟨line.data.toList.length, line.data.toList, [], rfl, ⟨HL.out⟩, trim_len _, Nat.le_of_eq hz, Rd.Own.nil _ _ _ _ _, Ext.refl _⟩
 case round =>
   obtain ⟨f, t, done, rfl, hr, hf, hfl, hown, hE⟩ := hrel
   have hh := trim_head t
   obtain ⟨tt, htt⟩ : ∃ tt, trim t = tt := ⟨_, rfl⟩
   rw [htt] at hr hf hh
   rw [htt]
   clear htt
   obtain ⟨s, hs0⟩ : ∃ s, BA tt = s := ⟨_, rfl⟩
   have hsd : As (s.data.toList = tt) := ⟨by rw [← hs0]⟩
   have hsl : As (s.toList = tt) := ⟨by rw [Lib.toList_data]; exact hsd.out⟩
   rw [hs0]
   have hsz : As (s.size = tt.length) := ⟨by rw [← hs0]; rfl⟩
   clear hs0
   by_cases h0 : tt = []
   · have q1 : s.toList = [] := by rw [hsl.out]; exact h0
     have q2 : s.toList.isEmpty = true := by rw [q1]; rfl
     have hfin : done = L := by
       have := hr.out
       rw [h0] at this
       cases f <;> simpa [wdsT] using this
     rw [hfin] at hown
     have HF := KB.As.mk hfin
     clear hfin h0
     go_wp2_with (fail)
     go_ret
     exact ⟨_, rfl, hown, hE⟩
   · have q1 : ¬ s.toList = [] := by rw [hsl.out]; exact h0
     have q2 : s.toList.isEmpty = false := by rw [Bool.eq_false_iff]; intro q; exact q1 (List.isEmpty_iff.1 q)
     obtain ⟨f, rfl⟩ : ∃ g, f = g + 1 := ⟨f - 1, by have : tt.length ≠ 0 := fun q => h0 (List.eq_nil_of_length_eq_zero q); omega⟩
     have hr2 : done ++ hd tt :: wdsT f (trim (tl tt)) = L := by have := hr.out; rwa [wdsT, if_neg h0] at this
     have hq1 : (hd tt).head? ≠ some 34 := hq _ (by rw [← hr2]; simp)
     rw [hd_head tt h0 hh] at hq1
     have hpre : Lib.hasPrefix s.data.toList [34] = false := by
       rw [hsd.out]
       cases tt with
       | nil => rfl
       | cons a tt =>
         have q : ((34 : UInt8) == a) = false := by rw [beq_eq_false_iff_ne]; intro e; exact hq1 (by rw [← e]; rfl)
         simp [Lib.hasPrefix, List.isPrefixOf, q]
     have hdl : done.length + 1 ≤ L.length := by rw [← hr2]; simp
     have hlt := tl_len tt h0
     have HC1 := HC.out s
     rw [hpre] at HC1
     have hcut := cutC s (by rw [hsz.out]; omega)
     rw [hsd.out] at hcut
     have HCUT := KB.As.mk hcut
     have HC2 := KB.As.mk HC1
     have HR2 := KB.As.mk hr2
     have hdl2 : As ((done.map BA).length = done.length) := ⟨List.length_map ..⟩
     clear hcut HC1 hr2 hpre hq1 hr h0
     go_wp2_with (fail)
     refine (HCUT.out _).mono ?_; rintro e w2 ⟨fl, rfl, hE2⟩
     go_wp2_with (fail)
     refine (HC2.out _).mono ?_; rintro e w3 ⟨rfl, rfl⟩
     have hown2 := hown.ext hE2
     have hE12 := hE.trans hE2
     go_wp2_with (first | (at_builtin; refine wpList_push rfl _ _ _ rfl rdStr elStr rfl (hown2.ext ((Ext.refl _).alloc _)) rfl (heap_alloc_new _ _) (y := BA (hd tt)) rfl (by rw [hdl2.out]; omega) (by rw [hdl2.out]; unfold maxLen; omega) (by have := hE12.size; simp; omega) (hE12.alloc _) ?_; intro v' w4 hown4 hg4 hE4))
     refine (HT.out _ _).mono ?_; rintro e w5 ⟨rfl, rfl⟩
     have e4 : done.map BA ++ [BA (hd tt)] = (done ++ [hd tt]).map BA := by simp
     rw [e4] at hown4
     clear e4
     go_wp2_with (fail)
     go_roundw
     case rel => exact ⟨f, tl tt, done ++ [hd tt], rfl, ⟨by rw [← HR2.out]; simp⟩, Nat.le_trans (trim_len _) (by omega), by omega, hown4, hE4⟩
     case measure =>
       have := trim_len (tl tt)
       have h9 : (BA (trim (tl tt))).size = (trim (tl tt)).length := rfl
       show (BA (trim (tl tt))).size < s.size
       rw [h9, hsz.out]; omega
end K89
namespace K90
open Go Go.RowKit KB K88 K89
theorem indexC (F : Nat → Prop) (A : Option Addr) (c : Nat) (l : List ByteArray) (s : ByteArray) (k : Nat) (w : World) (hl : rdStr.Sl F w A c l) (hn : l.length ≤ 100000) (hk : k < l.length) (hs : l[k] = s) (hb : ∀ j (h : j < k), l[j]'(by omega) ≠ s) :
   Calls Tryz.prog 145 #[.slice A l.length c, .string s] w fun e w' => e = .returned (.int .i64 k) ∧ Ext w w' := by
 have HB := As.mk hb
 have HS := As.mk hs
 clear hb hs
 go_enter Tryz.func145, Tryz.ntmps145
 go_wp2_with (fail)
 go_loopw [8] (fun i wr => ∃ j : Nat, i = .int .i64 j ∧ j ≤ k ∧ Ext w wr) (fun i _ => l.length - (intOf i).toNat)
 case atStart => exact ⟨0, by go_num, Nat.zero_le _, Ext.refl _⟩
 case round =>
   obtain ⟨j, rfl, hjk, hE⟩ := hrel
   obtain ⟨b, o, rfl, hc⟩ := str_get (hl.ext hE) (show j < l.length by omega)
   by_cases hlt : j < k
   · have hne := HB.out j hlt
     obtain ⟨x, hx⟩ : ∃ x, l[j] = x := ⟨_, rfl⟩
     rw [hx] at hne hc
     have hne2 : ¬ s = x := fun q => hne q.symm
     have hne3 : (s.toList == x.toList) = false := by rw [beq_eq_false_iff_ne]; intro q; rw [Lib.toList_data, Lib.toList_data] at q; exact hne2 (ByteArray.ext (Array.toList_inj.1 q))
     clear hne2 hne
     have hj2 : j < l.length := by omega
     clear hx
     go_wp2_with (fail)
     go_roundw
     case rel => exact ⟨j + 1, by go_num, by omega, hE⟩
     case measure => simp [intOf] <;> omega
   · obtain rfl : j = k := by omega
     rw [HS.out] at hc
     go_wp2_with (fail)
     go_ret
     exact ⟨rfl, hE⟩
theorem amongC (F : Nat → Prop) (A : Option Addr) (c : Nat) (l : List ByteArray) (s : ByteArray) (k : Nat) (w : World) (hl : rdStr.Sl F w A c l) (hn : l.length ≤ 100000) (hk : k < l.length) (hs : l[k] = s) (hb : ∀ j (h : j < k), l[j]'(by omega) ≠ s) :
   Calls Tryz.prog 188 #[.string s, .slice A l.length c] w fun e w' => e = .returned (.int .i64 (k + 1)) ∧ Ext w w' := by
 have HI := As.mk (indexC F A c l s k w hl hn hk hs hb)
 clear hb hs hl
 go_enter Tryz.func188, Tryz.ntmps188
 go_wp2_with (fail)
 refine HI.out.mono ?_; rintro e w1 ⟨rfl, hE⟩
 go_wp2_with (fail)
 go_ret
 exact ⟨rfl, hE⟩
def WordsAt (F : Nat → Prop) (w : World) (b : Nat) (l : List ByteArray) : Prop := ∃ A c, w.heap[b]? = some (.cells #[.slice A l.length c, .bool false] 271 (0, 0)) ∧ ¬ F b ∧ rdStr.Sl (fun k => F k ∨ k = b) w A c l
theorem nextC (F : Nat → Prop) (b : Nat) (s : ByteArray) (l : List ByteArray) (w : World) (h : WordsAt F w b (s :: l)) (hn : (s :: l).length ≤ 100000) :
   Calls Tryz.prog 276 #[.pointer (some ⟨b, 0, none⟩)] w fun e w' => e = .returned (.string s) ∧ WordsAt F w' b l ∧ Keep (fun k => k = b) w w' := by
 obtain ⟨A, c, hb, hf, hs⟩ := h
 obtain ⟨b1, o1, rfl, hc⟩ := str_get hs (k := 0) (by simp)
 simp only [List.getElem_cons_zero, Nat.add_zero] at hc
 obtain ⟨A2, hrun, hs2⟩ := hs.suf elStr 1 l.length 1 (by simp) rfl (by simp)
 have hL : (s :: l).length = l.length + 1 := rfl
 rw [hL] at hrun hn hb
 have K1 := kS1 w b 0 (.slice A2 l.length (c - 1))
 have hb2 := bS hb 0 (.slice A2 l.length (c - 1))
 have HS2 := As.mk hs2
 have HK := As.mk K1
 have HB2 := As.mk hb2
 (have p0 := bC (hb) 0; have pf0 := bF (hb) 0; have p1 := bC (hb) 1; have pf1 := bF (hb) 1)
 clear hs hs2 K1 hb hb2
 have n0 : ¬ ((l.length : Int) + 1 = 0) := by omega
 have n1 : (0 : Int) < (l.length : Int) + 1 := by omega
 go_enter Tryz.func276, Tryz.ntmps276
 go_wp2_with (fail)
 go_ret
 exact ⟨rfl, ⟨_, _, HB2.out, hf, HS2.out.keep (HK.out.mono (fun _ _ q => .inr q))⟩, HK.out⟩
theorem isC (F : Nat → Prop) (b : Nat) (s : ByteArray) (l : List ByteArray) (w : World) (h : WordsAt F w b (s :: l)) (hn : (s :: l).length ≤ 100000) :
   Calls Tryz.prog 273 #[.pointer (some ⟨b, 0, none⟩), .string s] w fun e w' => e = .returned (.bool true) ∧ WordsAt F w' b l ∧ Keep (fun k => k = b) w w' := by
 obtain ⟨A, c, hb, hf, hs⟩ := h
 obtain ⟨b1, o1, rfl, hc⟩ := str_get hs (k := 0) (by simp)
 simp only [List.getElem_cons_zero, Nat.add_zero] at hc
 obtain ⟨A2, hrun, hs2⟩ := hs.suf elStr 1 l.length 1 (by simp) rfl (by simp)
 have hL : (s :: l).length = l.length + 1 := rfl
 rw [hL] at hrun hn hb
 have K1 := kS1 w b 0 (.slice A2 l.length (c - 1))
 have hb2 := bS hb 0 (.slice A2 l.length (c - 1))
 have HS2 := As.mk hs2
 have HK := As.mk K1
 have HB2 := As.mk hb2
 (have p0 := bC (hb) 0; have pf0 := bF (hb) 0; have p1 := bC (hb) 1; have pf1 := bF (hb) 1)
 clear hs hs2 K1 hb hb2
 have n0 : ¬ ((l.length : Int) + 1 = 0) := by omega
 have n1 : (0 : Int) < (l.length : Int) + 1 := by omega
 go_enter Tryz.func273, Tryz.ntmps273
 go_wp2_with (fail)
 go_ret
 exact ⟨rfl, ⟨_, _, HB2.out, hf, HS2.out.keep (HK.out.mono (fun _ _ q => .inr q))⟩, HK.out⟩
theorem isntC (F : Nat → Prop) (b : Nat) (s : ByteArray) (l : List ByteArray) (w : World) (h : WordsAt F w b l) (hne : l.head? ≠ some s) (hn : l.length ≤ 100000) :
   Calls Tryz.prog 273 #[.pointer (some ⟨b, 0, none⟩), .string s] w fun e w' => e = .returned (.bool false) ∧ Ext w w' := by
 obtain ⟨A, c, hb, hf, hs⟩ := h
 cases l with
 | nil =>
   (have p0 := bC (hb) 0; have pf0 := bF (hb) 0; have p1 := bC (hb) 1; have pf1 := bF (hb) 1)
   clear hb
   go_enter Tryz.func273, Tryz.ntmps273
   go_wp2_with (fail)
   go_ret
   exact ⟨rfl, Ext.refl _⟩
 | cons x l =>
   obtain ⟨b1, o1, rfl, hc⟩ := str_get hs (k := 0) (by simp)
   simp only [List.getElem_cons_zero, Nat.add_zero] at hc
   have hL : (x :: l).length = l.length + 1 := rfl
   have q : ¬ x = s := fun q => hne (by rw [q]; rfl)
   have q1 : (x.toList == s.toList) = false := by rw [beq_eq_false_iff_ne]; intro e; rw [Lib.toList_data, Lib.toList_data] at e; exact q (ByteArray.ext (Array.toList_inj.1 e))
   rw [hL] at hn hb
   (have p0 := bC (hb) 0; have pf0 := bF (hb) 0; have p1 := bC (hb) 1; have pf1 := bF (hb) 1)
   clear hs hb hne q
   have n0 : ¬ ((l.length : Int) + 1 = 0) := by omega
   have n1 : (0 : Int) < (l.length : Int) + 1 := by omega
   go_enter Tryz.func273, Tryz.ntmps273
   go_wp2_with (fail)
   go_ret
   exact ⟨rfl, Ext.refl _⟩
end K90
namespace KB
open Go Go.RowKit
variable {α : Type}
theorem own_new {R : Rd α} {F : Nat → Prop} {w w' : World} {e : TypeId} {v' : Value} {l m : List α} {olds news : List Value}
   (ho : w'.ownsRow w.heap.size e R.sz v' (l.length + m.length) (olds ++ news)) (hg : w.grownBy w' none) (h : ∀ k x, l[k]? = some x → R.C F w ((olds.drop (k * R.sz)).take R.sz) x) (hx : olds.length = l.length * R.sz)
   (hm : ∀ k x, m[k]? = some x → R.C F w ((news.drop (k * R.sz)).take R.sz) x) (hn : news.length = m.length * R.sz) : R.Own F w.heap.size e w' v' (l ++ m) := by
 have hall : ∀ k x, (l ++ m)[k]? = some x → R.C F w (((olds ++ news).drop (k * R.sz)).take R.sz) x := by
   intro k x hk
   rcases Nat.lt_or_ge k l.length with hlt | hge
   · rw [List.getElem?_append_left hlt] at hk
     have e : k * R.sz + R.sz ≤ olds.length := by rw [hx, ← Nat.succ_mul]; exact Nat.mul_le_mul_right _ hlt
     rw [List.drop_append_of_le_length (by omega), List.take_append_of_le_length (by simp; omega)]
     exact h k x hk
   · rw [List.getElem?_append_right hge] at hk
     obtain ⟨j, rfl⟩ : ∃ j, k = l.length + j := ⟨k - l.length, by omega⟩
     rw [Nat.add_sub_cancel_left] at hk
     have := hm j x hk
     rw [Nat.add_mul, ← hx, List.drop_append, List.drop_of_length_le (by omega), List.nil_append, Nat.add_sub_cancel_left]
     exact this
 refine ⟨olds ++ news, by rw [List.length_append]; exact ho, fun k x hk => ?_⟩
 have h1 := R.narrow (G := Fv F v') (fun i hi hG => hG.elim id (fun q => absurd (ho.lt i q).1 (by omega))) (hall k x hk)
 exact R.keep (w' := w') ⟨hg.os, hg.tape, hg.output, hg.size, fun i hi hn => hg.block i hi (by simp)⟩ h1
theorem ext_grown {w w' : World} (h : w.grownBy w' none) : Ext w w' := (Ext.refl w).grown h (fun k hk => by cases hk)
section
variable {P : Program} {ops : Array Oper} {o : Oper} {a : Act} {Q : Exit → Act → World → Prop} {w : World} {K : Act → World → Prop} {E : Prop}
theorem step_clip (hgd : o.guard = none) (s x : Operand) (t : TypeId) (ho : o.op = .call { callee := .builtin .append, args := #[s, x], argTypes := #[t, t] })
   (R : Rd α) {F : Nat → Prop} {e : TypeId} {bytes : Nat} (hE : El P t e R.sz bytes) {A : Option Addr} {n : Nat} {l : List α} (hs : a.eval s = .slice A n n) (hn : n = l.length) (hl : R.Sl F w A n l)
   {g : Nat} {c : Nat} (hx : a.eval x = .slice (some ⟨g, 0, none⟩) 1 c) {cs : Array Value} {te : TypeId} {fr : Nat × Nat} (hc : w.heap[g]? = some (.cells cs te fr)) {y : α} (hy : R.C F w cs.toList y)
   (hlen : (l.length + 1) * bytes ≤ 140737488355328) (hl2 : l.length + 1 ≤ maxLen)
   (h : ∀ v' w', R.Own F w.heap.size e w' v' (l ++ [y]) → Ext w w' → K (a.put o.dst v') w') : if Region.wanted o (yielded ops a.tmps) = true then Oper.wp P o a w K Q else E := by
 subst hn
 obtain ⟨hu, i, z, hi, hz, hsz, hb, hzs, hp⟩ := hE
 have hyl := R.len hy
 have hcells : ∃ olds : List Value, olds.length = l.length * R.sz ∧ (∀ b, A = some b → ∀ j u, olds[j]? = some u → w.cell? (b.add j) = some u) ∧ (∀ k x, l[k]? = some x → R.C F w ((olds.drop (k * R.sz)).take R.sz) x) := by
   rcases Nat.eq_zero_or_pos l.length with h0 | h0
   · obtain rfl : l = [] := List.eq_nil_of_length_eq_zero h0
     exact ⟨[], by simp, fun b _ j u hj => by simp at hj, fun k x hk => by simp at hk⟩
   · obtain ⟨b, o', rfl, _⟩ := hl.get h0
     obtain ⟨cs, h1, h2, h3, _⟩ := hl.cells
     exact ⟨cs, h1, fun b' hb' j u hj => by cases hb'; rw [Addr.add_lit]; exact h2 j u hj, fun k x hk => (h3 k x hk).2⟩
 obtain ⟨olds, o1, o2, o3⟩ := hcells
 refine step_append_grows hgd s x t ho e i z R.sz bytes hu hi hz hsz hb hzs hp A l.length l.length olds hs (fun hA => by have := hl.nil_ hA; omega) o1 o2 ⟨g, 0, none⟩ 1 c cs.toList hx (by omega) (fun j u hj => by rw [Addr.add_lit, Nat.zero_add, cell_of_row w g j cs te fr hc]; simpa using hj) (R.one hy) (by omega) hl2 hlen ?_
 intro v' w' hown hgr
 refine h v' w' (own_new (m := [y]) hown hgr o3 o1 (fun k y' hk => ?_) (by simp; omega)) (ext_grown hgr)
 match k, hk with
 | 0, hk => simp at hk; subst hk; rw [Nat.zero_mul, List.drop_zero, List.take_of_length_le (by omega)]; exact hy
end
end KB
namespace KB
open Go Go.RowKit
variable {α : Type}
theorem seg_set {xs : List Value} {sz i k j : Nat} {u : Value} (hj : j < sz) : ((xs.set (i * sz + j) u).drop (k * sz)).take sz = if i = k then ((xs.drop (k * sz)).take sz).set j u else (xs.drop (k * sz)).take sz := by
 by_cases e : i = k
 · subst e
   rw [if_pos rfl]
   apply List.ext_getElem?
   intro m
   rw [List.getElem?_take, List.getElem?_drop, List.getElem?_set, List.getElem?_set, List.getElem?_take, List.getElem?_drop, List.length_take, List.length_drop]
   by_cases hm : m < sz
   · rw [if_pos hm, if_pos hm]
     by_cases e2 : j = m
     · subst e2
       rw [if_pos rfl, if_pos rfl]
       by_cases h3 : i * sz + j < xs.length
       · rw [if_pos h3, if_pos (by omega)]
       · rw [if_neg h3, if_neg (by omega)]
     · rw [if_neg (by omega), if_neg e2]
   · rw [if_neg hm, if_neg hm, if_neg (by omega)]
 · rw [if_neg e]
   apply List.ext_getElem?
   intro m
   rw [List.getElem?_take, List.getElem?_take]
   by_cases hm : m < sz
   · rw [if_pos hm, if_pos hm, List.getElem?_drop, List.getElem?_drop, List.getElem?_set_ne]
     intro h
     rcases Nat.lt_or_gt_of_ne e with h1 | h1
     · have : (i + 1) * sz ≤ k * sz := Nat.mul_le_mul_right _ h1
       rw [Nat.succ_mul] at this; omega
     · have : (k + 1) * sz ≤ i * sz := Nat.mul_le_mul_right _ h1
       rw [Nat.succ_mul] at this; omega
   · rw [if_neg hm, if_neg hm]
theorem own_n {R : Rd α} {F : Nat → Prop} {B : Nat} {e : TypeId} {w : World} {g n cap : Nat} {l : List α} (h : R.Own F B e w (.slice (some ⟨g, 0, none⟩) n cap) l) : n = l.length := by
 obtain ⟨xs, ho, hC⟩ := h
 rcases ho.2 with ⟨h', _⟩ | ⟨g', cap', cur, h', _⟩
 · cases h'
 · simp only [Value.slice.injEq] at h'; exact h'.2.1
theorem own_some {R : Rd α} {F : Nat → Prop} {B : Nat} {e : TypeId} {w : World} {v : Value} {l : List α} (h : R.Own F B e w v l) (hl : 0 < l.length) : ∃ g cap, v = .slice (some ⟨g, 0, none⟩) l.length cap ∧ B ≤ g ∧ g < w.heap.size := by
 have hge := h.ge
 obtain ⟨xs, ho, hC⟩ := h
 rcases ho.2 with ⟨rfl, hn⟩ | ⟨g, cap, cur, rfl, hb, hg, rest⟩
 · omega
 · exact ⟨g, cap, rfl, hge g rfl⟩
theorem Rd.Own.cellj {R : Rd α} {F : Nat → Prop} {B : Nat} {e : TypeId} {w : World} {g n cap : Nat} {l : List α} (h : R.Own F B e w (.slice (some ⟨g, 0, none⟩) n cap) l) {i : Nat} (hi : i < l.length) :
   ∃ cs, R.C (Fv F (.slice (some ⟨g, 0, none⟩) n cap)) w cs l[i] ∧ (∀ j u, cs[j]? = some u → w.cell? ⟨g, i * R.sz + j, none⟩ = some u) ∧ ∀ j, w.frozen? ⟨g, j, none⟩ = false := by
 obtain rfl := own_n h
 obtain ⟨xs, ho, hC⟩ := h
 have hxl := ho.1
 have e : (i + 1) * R.sz ≤ l.length * R.sz := Nat.mul_le_mul_right _ hi
 rw [Nat.succ_mul] at e
 refine ⟨_, hC i _ (List.getElem?_eq_getElem hi), fun j u hj => ?_, fun j => ho.frozenAt j⟩
 have hj' : j < R.sz := by have := (List.getElem?_eq_some_iff.1 hj).1; simp at this; omega
 rw [List.getElem?_take, if_pos hj', List.getElem?_drop] at hj
 rw [ho.cellAt _ (by omega)]; exact hj
theorem Rd.Own.setj {R : Rd α} {F : Nat → Prop} {B : Nat} {e : TypeId} {w : World} {g n cap : Nat} {l : List α} (h : R.Own F B e w (.slice (some ⟨g, 0, none⟩) n cap) l) {i j : Nat} (hi : i < l.length) (hj : j < R.sz) {u : Value} {y : α}
   (hy : ∀ cs, R.C (Fv F (.slice (some ⟨g, 0, none⟩) n cap)) w cs l[i] → R.C (Fv F (.slice (some ⟨g, 0, none⟩) n cap)) w (cs.set j u) y) : R.Own F B e (w.setCell ⟨g, i * R.sz + j, none⟩ u) (.slice (some ⟨g, 0, none⟩) n cap) (l.set i y) := by
 obtain rfl := own_n h
 obtain ⟨xs, ho, hC⟩ := h
 have hK : Keep (Fv F (.slice (some ⟨g, 0, none⟩) l.length cap)) w (w.setCell ⟨g, i * R.sz + j, none⟩ u) := Keep.setCell _ _ _ (.inr rfl)
 refine ⟨xs.set (i * R.sz + j) u, ?_, fun k x hk => ?_⟩
 · rw [List.length_set]; exact (ho.stored (i * R.sz + j) u).1
 · refine R.keep hK ?_
   rw [seg_set hj]
   by_cases hik : i = k
   · subst hik
     rw [if_pos rfl]
     rw [List.getElem?_set_self hi] at hk
     cases hk
     exact hy _ (hC i _ (List.getElem?_eq_getElem hi))
   · rw [List.getElem?_set_ne hik] at hk
     rw [if_neg hik]
     exact hC k x hk
end KB
namespace KB
open Go Go.RowKit
variable {α : Type}
theorem Rd.Own.take {R : Rd α} {F : Nat → Prop} {B : Nat} {e : TypeId} {w : World} {g n cap : Nat} {l : List α} (h : R.Own F B e w (.slice (some ⟨g, 0, none⟩) n cap) l) {m : Nat} (hm : m ≤ l.length) : R.Own F B e w (.slice (some ⟨g, 0, none⟩) m cap) (l.take m) := by
 obtain rfl := own_n h
 obtain ⟨xs, ho, hC⟩ := h
 rcases ho.2 with ⟨h', _⟩ | ⟨g', cap', cur, h', hb, hg, hnc, hcm, hcs, htake⟩
 · cases h'
 simp only [Value.slice.injEq, Option.some.injEq, Addr.mk.injEq, and_true, true_and] at h'
 obtain ⟨rfl, rfl⟩ := h'
 have hms : m * R.sz ≤ l.length * R.sz := Nat.mul_le_mul_right _ hm
 have hl : (l.take m).length = m := by rw [List.length_take]; omega
 refine ⟨xs.take (m * R.sz), ?_, fun k x hk => ?_⟩
 · rw [hl]
   refine ⟨by rw [List.length_take, ho.1]; omega, .inr ⟨g, cap, cur, rfl, hb, hg, by omega, hcm, hcs, ?_⟩⟩
   rw [← htake, List.take_take, Nat.min_eq_left hms]
 · have hkm : k < m := by have := (List.getElem?_eq_some_iff.1 hk).1; omega
   rw [List.getElem?_take, if_pos hkm] at hk
   have e1 : (k + 1) * R.sz ≤ m * R.sz := Nat.mul_le_mul_right _ hkm
   rw [Nat.succ_mul] at e1
   have e2 : ((xs.take (m * R.sz)).drop (k * R.sz)).take R.sz = (xs.drop (k * R.sz)).take R.sz := by
     rw [List.drop_take, List.take_take, Nat.min_eq_left (by omega)]
   rw [e2]
   exact hC k x hk
theorem Rd.Own.keep2 {R : Rd α} {F : Nat → Prop} {B : Nat} {e : TypeId} {w w' : World} {v : Value} {l : List α} (h : R.Own F B e w v l) (k : Keep (Fv F v) w w') (hk : ∀ g, v.ownBlock = some g → w'.heap[g]? = w.heap[g]?) : R.Own F B e w' v l := by
 obtain ⟨xs, ho, hC⟩ := h
 refine ⟨xs, ⟨ho.1, ?_⟩, fun j x hj => R.keep k (hC j x hj)⟩
 rcases ho.2 with h1 | ⟨g, cap, cur, rfl, hb, hg, rest⟩
 · exact .inl h1
 · exact .inr ⟨g, cap, cur, rfl, hb, (hk g rfl).trans hg, rest⟩
theorem Keep.newB {F G : Nat → Prop} {a b c : World} (h : Keep F a b) (k : Keep G b c) (hG : ∀ i, G i → F i ∨ a.heap.size ≤ i) : Keep F a c :=
 ((h.mono (G := fun i => F i ∨ a.heap.size ≤ i) (fun _ _ q => .inl q)).trans (k.mono (fun i _ q => hG i q))).mono (fun i hi q => q.elim id (fun e => absurd hi (by omega)))
theorem own_pre {P : Program} {t e : TypeId} {sz bytes : Nat} (hE : El P t e sz bytes) (g n cap m : Nat) (hm : m ≤ n) (hn : n ≤ cap) (kh : IntKind) (W : World) : (Instr.slice t (.slice (some ⟨g, 0, none⟩) n cap) none (some (.int kh m)) none).run P W = .ok (.slice (some ⟨g, 0, none⟩) m cap) W := by
 obtain ⟨hu, i', z, hi, hz, hsz, hb, hzs, hp⟩ := hE
 have hel : P.elem t = e := by unfold Program.elem; rw [hu]
 rw [run_slice_h W t (some ⟨g, 0, none⟩) n cap (by rw [hel]; exact hu) kh m (by omega) (by omega)]
 simp [hel, sizeOf, typeInfo, hi, hsz, sliced]
 intro _; rfl
end KB
namespace K91
open Go Go.RowKit KB K1 K88 K89 K90
abbrev finalB : ByteArray := ⟨#[102, 105, 110, 97, 108]⟩
theorem words_keep {F G : Nat → Prop} {w w' : World} {b : Nat} {l : List ByteArray} (h : WordsAt F w b l) (k : Keep G w w') (hG : ∀ i, G i → F i) (hb : ¬ G b) : WordsAt F w' b l := by
 obtain ⟨A, c, h1, h2, h3⟩ := h
 exact ⟨A, c, k.blk hb h1, h2, h3.keep (k.mono (fun i _ q => .inl (hG i q)))⟩
theorem words_ext {F : Nat → Prop} {w w' : World} {b : Nat} {l : List ByteArray} (h : WordsAt F w b l) (k : Ext w w') : WordsAt F w' b l := words_keep h (k.keep (fun _ => False)) (fun _ q => q.elim) (fun q => q)
theorem words_lt {F : Nat → Prop} {w : World} {b : Nat} {l : List ByteArray} (h : WordsAt F w b l) : b < w.heap.size := by obtain ⟨A, c, h1, _⟩ := h; exact blk_lt h1
theorem words_narrow {F G : Nat → Prop} {w : World} {b : Nat} {l : List ByteArray} (h : WordsAt F w b l) (hG : ∀ i, i < w.heap.size → G i → F i) : WordsAt G w b l := by
 obtain ⟨A, c, h1, h2, h3⟩ := h
 exact ⟨A, c, h1, fun q => h2 (hG _ (blk_lt h1) q), h3.narrow (by decide) (fun i hi q => q.elim (fun q => .inl (hG i hi q)) .inr)⟩
abbrev qCells (fin : Bool) : Array Value := #[.bool false, .bool false, .slice none 0 0, .slice none 0 0, .bool fin, .slice none 0 0, .slice none 0 0]
theorem queryFC (F : Nat → Prop) (b : Nat) (w : World) (h : WordsAt F w b [finalB]) (v0 : Value) (n1 n2 n3 : Int) :
   Calls Tryz.prog 193 #[.pointer (some ⟨b, 0, none⟩), .agg #[v0, .int .i64 n1, .int .i64 n2, .int .i64 n3]] w fun e w' => e = .returned (.agg (qCells true)) ∧ WordsAt F w' b [] ∧ Keep (fun k => k = b) w w' := by
 have hl := words_lt h
 have hw0 := words_narrow (G := fun i => F i ∨ w.heap.size ≤ i) h (fun i hi q => q.elim id (fun q => by omega))
 have HI := As.mk (fun W (hW : Ext w W) => isC _ b finalB [] W (words_ext hw0 hW) (by decide))
 have HN := As.mk (fun (W : World) (s : ByteArray) (hW : WordsAt (fun i => F i ∨ w.heap.size ≤ i) W b []) => isntC _ b s [] W hW (by simp) (by decide))
 have hE3 := (((Ext.refl w).alloc (.cells #[v0, .int .i64 n1, .int .i64 n2, .int .i64 n3] 27)).alloc (.cells (qCells false) 75)).alloc (.cells (qCells false) 75)
 have hR := bN (w.alloc (.cells #[v0, .int .i64 n1, .int .i64 n2, .int .i64 n3] 27)) (.cells (qCells false) 75)
 replace hR := ((Ext.refl _).alloc (.cells (qCells false) 75)).blk hR
 have hQ := bN ((w.alloc (.cells #[v0, .int .i64 n1, .int .i64 n2, .int .i64 n3] 27)).alloc (.cells (qCells false) 75)) (.cells (qCells false) 75)
 simp only [World.size_alloc] at hR hQ
 clear h hw0
 go_enter Tryz.func193, Tryz.ntmps193
 go_wp2_with (fail)
 refine (HI.out _ hE3).mono ?_; rintro e w4 ⟨rfl, hw4, k4⟩
 have hR4 := k4.blk (by omega) hR
 have hQ4 := k4.blk (by omega) hQ
 have K4 := (Keep.pre k4 hE3).mono (G := fun i => i = b) (fun _ _ q => q)
 have hS4 := k4.size
 clear k4 hR hQ hE3
 (have p0 := bC (hQ4) 0; have pf0 := bF (hQ4) 0; have p1 := bC (hQ4) 1; have pf1 := bF (hQ4) 1; have p2 := bC (hQ4) 2; have pf2 := bF (hQ4) 2; have p3 := bC (hQ4) 3; have pf3 := bF (hQ4) 3; have p4 := bC (hQ4) 4; have pf4 := bF (hQ4) 4; have p5 := bC (hQ4) 5; have pf5 := bF (hQ4) 5; have p6 := bC (hQ4) 6; have pf6 := bF (hQ4) 6)
 go_wp2_with (fail)
 have hS5 := kS1 w4 (w.heap.size + 1 + 1) 4 (.bool true)
 have hQ5 := bS hQ4 4 (.bool true)
 have hR5 := hS5.blk (by omega) hR4
 have hw5 := words_keep hw4 hS5 (fun i q => .inr (by omega)) (by omega)
 have K5 := K4.newB hS5 (fun j q => .inr (by omega))
 clear p0 pf0 p1 pf1 p2 pf2 p3 pf3 p4 pf4 p5 pf5 p6 pf6
 clear hQ4 hR4 hw4 K4 hS5
 generalize w4.setCell ⟨w.heap.size + 1 + 1, 4, none⟩ (.bool true) = w5 at *
 (have p0 := bC (hQ5) 0; have pf0 := bF (hQ5) 0; have p1 := bC (hQ5) 1; have pf1 := bF (hQ5) 1; have p2 := bC (hQ5) 2; have pf2 := bF (hQ5) 2; have p3 := bC (hQ5) 3; have pf3 := bF (hQ5) 3; have p4 := bC (hQ5) 4; have pf4 := bF (hQ5) 4; have p5 := bC (hQ5) 5; have pf5 := bF (hQ5) 5; have p6 := bC (hQ5) 6; have pf6 := bF (hQ5) 6)
 obtain ⟨A5, c5, hb5, -⟩ := id hw5
 (have q0 := bC (hb5) 0; have qf0 := bF (hb5) 0; have q1 := bC (hb5) 1; have qf1 := bF (hb5) 1)
 go_wp2_with (fail)
 refine (HN.out w5 _ hw5).mono ?_; rintro e w6 ⟨rfl, hE6⟩
 have hQ6 := hE6.blk hQ5
 have hR6 := hE6.blk hR5
 have hw6 := words_ext hw5 hE6
 have K6 := K5.post hE6
 clear p0 pf0 p1 pf1 p2 pf2 p3 pf3 p4 pf4 p5 pf5 p6 pf6
 clear hQ5 hR5 hw5 K5 hE6 q0 q1 qf0 qf1 hb5
 (have p0 := bC (hQ6) 0; have pf0 := bF (hQ6) 0; have p1 := bC (hQ6) 1; have pf1 := bF (hQ6) 1; have p2 := bC (hQ6) 2; have pf2 := bF (hQ6) 2; have p3 := bC (hQ6) 3; have pf3 := bF (hQ6) 3; have p4 := bC (hQ6) 4; have pf4 := bF (hQ6) 4; have p5 := bC (hQ6) 5; have pf5 := bF (hQ6) 5; have p6 := bC (hQ6) 6; have pf6 := bF (hQ6) 6)
 obtain ⟨A6, c6, hb6, -⟩ := id hw6
 (have q0 := bC (hb6) 0; have qf0 := bF (hb6) 0; have q1 := bC (hb6) 1; have qf1 := bF (hb6) 1)
 go_wp2_with (fail)
 have hS7 := kS1 w6 (w.heap.size + 1 + 1) 0 (.bool false)
 have hQ7 := bS hQ6 0 (.bool false)
 have hR7 := hS7.blk (by omega) hR6
 have hw7 := words_keep hw6 hS7 (fun i q => .inr (by omega)) (by omega)
 have K7 := K6.newB hS7 (fun j q => .inr (by omega))
 clear p0 pf0 p1 pf1 p2 pf2 p3 pf3 p4 pf4 p5 pf5 p6 pf6
 clear hQ6 hR6 hw6 K6 hS7 q0 q1 qf0 qf1 hb6
 generalize w6.setCell ⟨w.heap.size + 1 + 1, 0, none⟩ (.bool false) = w7 at *
 (have p0 := bC (hQ7) 0; have pf0 := bF (hQ7) 0; have p1 := bC (hQ7) 1; have pf1 := bF (hQ7) 1; have p2 := bC (hQ7) 2; have pf2 := bF (hQ7) 2; have p3 := bC (hQ7) 3; have pf3 := bF (hQ7) 3; have p4 := bC (hQ7) 4; have pf4 := bF (hQ7) 4; have p5 := bC (hQ7) 5; have pf5 := bF (hQ7) 5; have p6 := bC (hQ7) 6; have pf6 := bF (hQ7) 6)
 obtain ⟨A7, c7, hb7, -⟩ := id hw7
 (have q0 := bC (hb7) 0; have qf0 := bF (hb7) 0; have q1 := bC (hb7) 1; have qf1 := bF (hb7) 1)
 go_wp2_with (fail)
 refine (HN.out w7 _ hw7).mono ?_; rintro e w8 ⟨rfl, hE8⟩
 have hQ8 := hE8.blk hQ7
 have hR8 := hE8.blk hR7
 have hw8 := words_ext hw7 hE8
 have K8 := K7.post hE8
 clear p0 pf0 p1 pf1 p2 pf2 p3 pf3 p4 pf4 p5 pf5 p6 pf6
 clear hQ7 hR7 hw7 K7 hE8 q0 q1 qf0 qf1 hb7
 (have p0 := bC (hQ8) 0; have pf0 := bF (hQ8) 0; have p1 := bC (hQ8) 1; have pf1 := bF (hQ8) 1; have p2 := bC (hQ8) 2; have pf2 := bF (hQ8) 2; have p3 := bC (hQ8) 3; have pf3 := bF (hQ8) 3; have p4 := bC (hQ8) 4; have pf4 := bF (hQ8) 4; have p5 := bC (hQ8) 5; have pf5 := bF (hQ8) 5; have p6 := bC (hQ8) 6; have pf6 := bF (hQ8) 6)
 obtain ⟨A8, c8, hb8, -⟩ := id hw8
 (have q0 := bC (hb8) 0; have qf0 := bF (hb8) 0; have q1 := bC (hb8) 1; have qf1 := bF (hb8) 1)
 go_wp2_with (fail)
 have hS9 := kS1 w8 (w.heap.size + 1 + 1) 1 (.bool false)
 have hQ9 := bS hQ8 1 (.bool false)
 have hR9 := hS9.blk (by omega) hR8
 have hw9 := words_keep hw8 hS9 (fun i q => .inr (by omega)) (by omega)
 have K9 := K8.newB hS9 (fun j q => .inr (by omega))
 clear p0 pf0 p1 pf1 p2 pf2 p3 pf3 p4 pf4 p5 pf5 p6 pf6
 clear hQ8 hR8 hw8 K8 hS9 q0 q1 qf0 qf1 hb8
 generalize w8.setCell ⟨w.heap.size + 1 + 1, 1, none⟩ (.bool false) = w9 at *
 (have p0 := bC (hQ9) 0; have pf0 := bF (hQ9) 0; have p1 := bC (hQ9) 1; have pf1 := bF (hQ9) 1; have p2 := bC (hQ9) 2; have pf2 := bF (hQ9) 2; have p3 := bC (hQ9) 3; have pf3 := bF (hQ9) 3; have p4 := bC (hQ9) 4; have pf4 := bF (hQ9) 4; have p5 := bC (hQ9) 5; have pf5 := bF (hQ9) 5; have p6 := bC (hQ9) 6; have pf6 := bF (hQ9) 6)
 obtain ⟨A9, c9, hb9, -⟩ := id hw9
 (have q0 := bC (hb9) 0; have qf0 := bF (hb9) 0; have q1 := bC (hb9) 1; have qf1 := bF (hb9) 1)
 go_wp2_with (fail)
 refine wp_loop_rounds 1 ?_
 rw [rounds_succ]
 go_wp2_with (fail)
 refine (HN.out w9 _ hw9).mono ?_; rintro e w10 ⟨rfl, hE10⟩
 have hQ10 := hE10.blk hQ9
 have hR10 := hE10.blk hR9
 have hw10 := words_ext hw9 hE10
 have K10 := K9.post hE10
 clear p0 pf0 p1 pf1 p2 pf2 p3 pf3 p4 pf4 p5 pf5 p6 pf6
 clear hQ9 hR9 hw9 K9 hE10 q0 q1 qf0 qf1 hb9
 (have p0 := bC (hQ10) 0; have pf0 := bF (hQ10) 0; have p1 := bC (hQ10) 1; have pf1 := bF (hQ10) 1; have p2 := bC (hQ10) 2; have pf2 := bF (hQ10) 2; have p3 := bC (hQ10) 3; have pf3 := bF (hQ10) 3; have p4 := bC (hQ10) 4; have pf4 := bF (hQ10) 4; have p5 := bC (hQ10) 5; have pf5 := bF (hQ10) 5; have p6 := bC (hQ10) 6; have pf6 := bF (hQ10) 6)
 obtain ⟨A10, c10, hb10, -⟩ := id hw10
 (have q0 := bC (hb10) 0; have qf0 := bF (hb10) 0; have q1 := bC (hb10) 1; have qf1 := bF (hb10) 1)
 go_wp2_with (fail)
 refine wp_loop_rounds 1 ?_
 rw [rounds_succ]
 have P := put7 hR10 (.bool false) (.bool false) (.slice none 0 0) (.slice none 0 0) (.bool true) (.slice none 0 0) (.slice none 0 0)
 (have r0 := bC (hR10) 0; have rf0 := bF (hR10) 0; have r1 := bC (hR10) 1; have rf1 := bF (hR10) 1; have r2 := bC (hR10) 2; have rf2 := bF (hR10) 2; have r3 := bC (hR10) 3; have rf3 := bF (hR10) 3; have r4 := bC (hR10) 4; have rf4 := bF (hR10) 4; have r5 := bC (hR10) 5; have rf5 := bF (hR10) 5; have r6 := bC (hR10) 6; have rf6 := bF (hR10) 6)
 go_wp2_with (fail)
 have hwf := words_keep hw10 P.2 (fun i q => .inr (by omega)) (by omega)
 have KF := K10.newB P.2 (fun j q => .inr (by omega))
 have e0 := bC P.1 0
 have e1 := bC P.1 1
 have e2 := bC P.1 2
 have e3 := bC P.1 3
 have e4 := bC P.1 4
 have e5 := bC P.1 5
 have e6 := bC P.1 6
 refine bodyPost_ret (v := .agg (qCells true)) (by simp [results, Tryz.results193, go_sem, e0, e1, e2, e3, e4, e5, e6]) rfl ?_
 exact ⟨rfl, words_narrow hwf (fun i _ q => .inl q), KF⟩
end K91
namespace K115
open Go Go.RowKit
open KB KB2
def rdPr : Rd (Int × Int) where
 sz := 2
 C := fun _ _ cs x => cs = [.int .i64 x.1, .int .i64 x.2]
 len := by rintro _ _ _ _ rfl; rfl
 keep := fun _ h => h
 narrow := fun _ h => h
 one := by rintro _ _ _ _ rfl u hu; simp at hu; rcases hu with rfl | rfl <;> rfl
theorem pr_get {F : Nat → Prop} {w : World} {A : Option Addr} {c : Nat} {l : List (Int × Int)} (h : rdPr.Sl F w A c l) {k : Nat} (hk : k < l.length) : ∃ b o, A = some ⟨b, o, none⟩ ∧ w.cell? ⟨b, o + k * 2, none⟩ = some (.int .i64 l[k].1) ∧ w.cell? ⟨b, o + k * 2 + 1, none⟩ = some (.int .i64 l[k].2) := by
 obtain ⟨b, o, e, _, cs, hC, hat⟩ := h.at_ k l[k] (List.getElem?_eq_getElem hk)
 obtain rfl : cs = [.int .i64 l[k].1, .int .i64 l[k].2] := hC
 exact ⟨b, o, e, hat 0 _ rfl, hat 1 _ rfl⟩
def rdCell : Rd Int where
 sz := 3
 C := fun _ _ cs x => cs = [.bool true, .int .i64 x, .string ⟨#[]⟩]
 len := by rintro _ _ _ _ rfl; rfl
 keep := fun _ h => h
 narrow := fun _ h => h
 one := by rintro _ _ _ _ rfl u hu; simp at hu; rcases hu with rfl | rfl | rfl <;> rfl
theorem cell_get {F : Nat → Prop} {w : World} {A : Option Addr} {c : Nat} {l : List Int} (h : rdCell.Sl F w A c l) {k : Nat} (hk : k < l.length) : ∃ b o, A = some ⟨b, o, none⟩ ∧ w.cell? ⟨b, o + k * 3, none⟩ = some (.bool true) ∧ w.cell? ⟨b, o + k * 3 + 1, none⟩ = some (.int .i64 l[k]) ∧ w.cell? ⟨b, o + k * 3 + 2, none⟩ = some (.string ⟨#[]⟩) := by
 obtain ⟨b, o, e, _, cs, hC, hat⟩ := h.at_ k l[k] (List.getElem?_eq_getElem hk)
 obtain rfl : cs = [.bool true, .int .i64 l[k], .string ⟨#[]⟩] := hC
 exact ⟨b, o, e, hat 0 _ rfl, hat 1 _ rfl, hat 2 _ rfl⟩
theorem elAgg : El Tryz.prog 73 274 rdPr.sz 16 := El.mk (z := .agg #[.int .i64 0, .int .i64 0]) Tryz.underlying73 (by kernel_rfl) rfl (by decide)
theorem elCell : El Tryz.prog 65 35 rdCell.sz 32 := El.mk (z := .agg #[.bool false, .int .i64 0, .string ⟨#[]⟩]) Tryz.underlying65 (by kernel_rfl) rfl (by decide)
end K115
end Go.Proofs.YtbjeejimedhniaaGreatDoor
namespace Go.Proofs
open Go.Shelf
def Tryz.lays156_ren : Go.Shelf.Ren := ⟨fun | 156 => 195 | 165 => 278 | 166 => 46 | 169 => 48 | 240 => 106 | 241 => 337 | 276 => 187 | 277 => 367 | n => n, fun | 31 => 126 | 9 => 9 | 3 => 3 | 4 => 4 | 0 => 0 | 20 => 20 | 72 => 122 | 76 => 130 | 70 => 119 | 37 => 120 | 75 => 129 | 127 => 191 | 164 => 262 | 5 => 5 | 80 => 133 | n => n, fun | n => n⟩
theorem Tryz.lays156 : Go.Proofs.Lays.n156 Tryz.prog Tryz.lays156_ren := {
  mixed := by kernel_rfl
  f156 := Tryz.func195.trans (congrArg some (by kernel_rfl))
  f165 := Tryz.func278.trans (congrArg some (by kernel_rfl))
  f166 := Tryz.func46.trans (congrArg some (by kernel_rfl))
  f169 := Tryz.func48.trans (congrArg some (by kernel_rfl))
  f240 := Tryz.func106.trans (congrArg some (by kernel_rfl))
  f241 := Tryz.func337.trans (congrArg some (by kernel_rfl))
  f276 := Tryz.func187.trans (congrArg some (by kernel_rfl))
  f277 := Tryz.func367.trans (congrArg some (by kernel_rfl))
  t0 := Tryz.underlying0
  a0 := Tryz.isAgg0
  z0 := Tryz.sizeOf0
  v0 := Tryz.zeroValue0
  t3 := Tryz.underlying3
  a3 := Tryz.isAgg3
  z3 := Tryz.sizeOf3
  v3 := Tryz.zeroValue3
  t4 := Tryz.underlying4
  a4 := Tryz.isAgg4
  z4 := Tryz.sizeOf4
  v4 := Tryz.zeroValue4
  t9 := Tryz.underlying9
  a9 := Tryz.isAgg9
  z9 := Tryz.sizeOf9
  v9 := Tryz.zeroValue9
  t20 := Tryz.underlying20
  a20 := Tryz.isAgg20
  z20 := Tryz.sizeOf20
  v20 := Tryz.zeroValue20
  t31 := Tryz.underlying126
  a31 := Tryz.isAgg126
  z31 := Tryz.sizeOf126
  v31 := Tryz.zeroValue126
  t37 := Tryz.underlying120
  a37 := Tryz.isAgg120
  z37 := Tryz.sizeOf120
  v37 := Tryz.zeroValue120
  t70 := Tryz.underlying119
  a70 := Tryz.isAgg119
  z70 := Tryz.sizeOf119
  v70 := Tryz.zeroValue119
  t72 := Tryz.underlying122
  a72 := Tryz.isAgg122
  z72 := Tryz.sizeOf122
  v72 := Tryz.zeroValue122
  t75 := Tryz.underlying129
  a75 := Tryz.isAgg129
  z75 := Tryz.sizeOf129
  v75 := Tryz.zeroValue129
  t76 := Tryz.underlying130
  a76 := Tryz.isAgg130
  z76 := Tryz.sizeOf130
  v76 := Tryz.zeroValue130
  t127 := Tryz.underlying191
  a127 := Tryz.isAgg191
  z127 := Tryz.sizeOf191
  v127 := Tryz.zeroValue191
  t164 := Tryz.underlying262
  a164 := Tryz.isAgg262
  z164 := Tryz.sizeOf262
  v164 := Tryz.zeroValue262 }
theorem Tryz.Builder_Extra_156 : Builder.Extra Tryz.prog Tryz.lays156_ren := {
  sizeBuilder := by kernel_rfl
  liesBuilder := by kernel_rfl
  t5 := Tryz.underlying5
  a5 := Tryz.isAgg5
  z5 := Tryz.sizeOf5
  v5 := Tryz.zeroValue5
  infoByte := by kernel_rfl
  cellsByte := by kernel_rfl
  sizeByte := by kernel_rfl
  neB5 := by decide }
open Go.RowKit in
theorem Tryz.strings_Join_none (a : Option Addr) (c : Nat) (sep : ByteArray) (w : World) :
    Calls Tryz.prog 195 #[.slice a 0 c, .string sep] w fun e w' => e = .returned (.string ⟨#[]⟩) ∧ w' = w := Any.strings_Join_none Tryz.lays156 Tryz.Builder_Extra_156 a c sep w
open Go.RowKit in
theorem Tryz.strings_Join (bk o c : Nat) (xs : List ByteArray) (sep : ByteArray) (w : World) (hcells : ∀ (j : Nat) x, xs[j]? = some x → w.cell? ⟨bk, o + j, none⟩ = some (.string x)) (hbk : bk < w.heap.size) (hN : xs.length ≤ 140737488355328) (hcap : xs.length ≤ c) (hlen : (Lib.join (xs.map (·.data.toList)) sep.data.toList).length ≤ 140737488355328) :
    Calls Tryz.prog 195 #[.slice (some ⟨bk, o, none⟩) xs.length c, .string sep] w fun e w' => e = .returned (.string ⟨(Lib.join (xs.map (·.data.toList)) sep.data.toList).toArray⟩) ∧ Below w.heap.size w w' := Any.strings_Join Tryz.lays156 Tryz.Builder_Extra_156 bk o c xs sep w hcells hbk hN hcap hlen
def Tryz.lays173_ren : Go.Shelf.Ren := ⟨fun | 173 => 334 | 246 => 305 | 283 => 342 | 284 => 343 | 285 => 344 | 286 => 345 | 129 => 318 | 317 => 368 | 318 => 369 | 319 => 370 | 320 => 371 | 337 => 399 | 338 => 400 | n => n, fun | 2 => 2 | 3 => 3 | 9 => 9 | 4 => 4 | 171 => 402 | 0 => 0 | 53 => 115 | 37 => 120 | 5 => 5 | 173 => 404 | 212 => 427 | 51 => 23 | 20 => 20 | 213 => 428 | 46 => 347 | 232 => 470 | 233 => 471 | n => n, fun | 17 => 3 | 18 => 6 | 19 => 7 | n => n⟩
theorem Tryz.lays173 : Go.Proofs.Lays.n173 Tryz.prog Tryz.lays173_ren := {
  mixed := by kernel_rfl
  f129 := Tryz.func318.trans (congrArg some (by kernel_rfl))
  f173 := Tryz.func334.trans (congrArg some (by kernel_rfl))
  f246 := Tryz.func305.trans (congrArg some (by kernel_rfl))
  f283 := Tryz.func342.trans (congrArg some (by kernel_rfl))
  f284 := Tryz.func343.trans (congrArg some (by kernel_rfl))
  f285 := Tryz.func344.trans (congrArg some (by kernel_rfl))
  f286 := Tryz.func345.trans (congrArg some (by kernel_rfl))
  f317 := Tryz.func368.trans (congrArg some (by kernel_rfl))
  f318 := Tryz.func369.trans (congrArg some (by kernel_rfl))
  f319 := Tryz.func370.trans (congrArg some (by kernel_rfl))
  f320 := Tryz.func371.trans (congrArg some (by kernel_rfl))
  f337 := Tryz.func399.trans (congrArg some (by kernel_rfl))
  f338 := Tryz.func400.trans (congrArg some (by kernel_rfl))
  t0 := Tryz.underlying0
  a0 := Tryz.isAgg0
  z0 := Tryz.sizeOf0
  v0 := Tryz.zeroValue0
  t2 := Tryz.underlying2
  a2 := Tryz.isAgg2
  z2 := Tryz.sizeOf2
  v2 := Tryz.zeroValue2
  t3 := Tryz.underlying3
  a3 := Tryz.isAgg3
  z3 := Tryz.sizeOf3
  v3 := Tryz.zeroValue3
  t4 := Tryz.underlying4
  a4 := Tryz.isAgg4
  z4 := Tryz.sizeOf4
  v4 := Tryz.zeroValue4
  t5 := Tryz.underlying5
  a5 := Tryz.isAgg5
  z5 := Tryz.sizeOf5
  v5 := Tryz.zeroValue5
  t9 := Tryz.underlying9
  a9 := Tryz.isAgg9
  z9 := Tryz.sizeOf9
  v9 := Tryz.zeroValue9
  t20 := Tryz.underlying20
  a20 := Tryz.isAgg20
  z20 := Tryz.sizeOf20
  v20 := Tryz.zeroValue20
  t37 := Tryz.underlying120
  a37 := Tryz.isAgg120
  z37 := Tryz.sizeOf120
  v37 := Tryz.zeroValue120
  t46 := Tryz.underlying347
  a46 := Tryz.isAgg347
  z46 := Tryz.sizeOf347
  v46 := Tryz.zeroValue347
  t51 := Tryz.underlying23
  a51 := Tryz.isAgg23
  z51 := Tryz.sizeOf23
  v51 := Tryz.zeroValue23
  t53 := Tryz.underlying115
  a53 := Tryz.isAgg115
  z53 := Tryz.sizeOf115
  v53 := Tryz.zeroValue115
  t171 := Tryz.underlying402
  a171 := Tryz.isAgg402
  z171 := Tryz.sizeOf402
  v171 := Tryz.zeroValue402
  t173 := Tryz.underlying404
  a173 := Tryz.isAgg404
  z173 := Tryz.sizeOf404
  v173 := Tryz.zeroValue404
  t212 := Tryz.underlying427
  a212 := Tryz.isAgg427
  z212 := Tryz.sizeOf427
  v212 := Tryz.zeroValue427
  t213 := Tryz.underlying428
  a213 := Tryz.isAgg428
  z213 := Tryz.sizeOf428
  t232 := Tryz.underlying470
  a232 := Tryz.isAgg470
  z232 := Tryz.sizeOf470
  v232 := Tryz.zeroValue470
  t233 := Tryz.underlying471
  a233 := Tryz.isAgg471
  z233 := Tryz.sizeOf471
  v233 := Tryz.zeroValue471
  g17 := by kernel_rfl
  g18 := by kernel_rfl
  g19 := by kernel_rfl }
open Go.RowKit Go.Sort Go.Lib in
theorem Tryz.strconv_FormatInt_10_small (i : Nat) (hi : i < 100) (w : World) :
    Calls Tryz.prog 334 #[.int .i64 i, .int .i64 10] w fun e w' => e = .returned (.string ⟨(Lib.decDigits i).toArray⟩) ∧ w' = w := Any.strconv_FormatInt_10_small Tryz.lays173 i hi w
def Tryz.laysM173_ren : Go.Shelf.Ren := ⟨fun | 173 => 334 | 246 => 305 | 283 => 342 | 284 => 343 | 285 => 344 | 286 => 345 | 129 => 318 | 317 => 368 | 318 => 369 | 319 => 370 | 320 => 371 | 337 => 399 | 338 => 400 | n => n, fun | 2 => 2 | 3 => 3 | 9 => 9 | 4 => 4 | 171 => 402 | 0 => 0 | 53 => 115 | 37 => 120 | 5 => 5 | 173 => 404 | 212 => 427 | 51 => 23 | 20 => 20 | 213 => 428 | 46 => 347 | 232 => 470 | 233 => 471 | n => n, fun | 17 => 3 | 18 => 6 | 19 => 7 | n => n⟩
theorem Tryz.laysM173 : Go.Proofs.LaysM.n173 Tryz.prog Tryz.laysM173_ren := {
  mixed := by kernel_rfl
  f129 := Tryz.func318.trans (congrArg some (by kernel_rfl))
  f173 := Tryz.func334.trans (congrArg some (by kernel_rfl))
  f246 := Tryz.func305.trans (congrArg some (by kernel_rfl))
  f283 := Tryz.func342.trans (congrArg some (by kernel_rfl))
  f284 := Tryz.func343.trans (congrArg some (by kernel_rfl))
  f285 := Tryz.func344.trans (congrArg some (by kernel_rfl))
  f286 := Tryz.func345.trans (congrArg some (by kernel_rfl))
  f317 := Tryz.func368.trans (congrArg some (by kernel_rfl))
  f318 := Tryz.func369.trans (congrArg some (by kernel_rfl))
  f319 := Tryz.func370.trans (congrArg some (by kernel_rfl))
  f320 := Tryz.func371.trans (congrArg some (by kernel_rfl))
  f337 := Tryz.func399.trans (congrArg some (by kernel_rfl))
  f338 := Tryz.func400.trans (congrArg some (by kernel_rfl))
  t0 := Tryz.underlying0
  a0 := Tryz.isAgg0
  z0 := Tryz.sizeOf0
  v0 := Tryz.zeroValue0
  t2 := Tryz.underlying2
  a2 := Tryz.isAgg2
  z2 := Tryz.sizeOf2
  v2 := Tryz.zeroValue2
  t3 := Tryz.underlying3
  a3 := Tryz.isAgg3
  z3 := Tryz.sizeOf3
  v3 := Tryz.zeroValue3
  t4 := Tryz.underlying4
  a4 := Tryz.isAgg4
  z4 := Tryz.sizeOf4
  v4 := Tryz.zeroValue4
  t5 := Tryz.underlying5
  a5 := Tryz.isAgg5
  z5 := Tryz.sizeOf5
  v5 := Tryz.zeroValue5
  t9 := Tryz.underlying9
  a9 := Tryz.isAgg9
  z9 := Tryz.sizeOf9
  v9 := Tryz.zeroValue9
  t20 := Tryz.underlying20
  a20 := Tryz.isAgg20
  z20 := Tryz.sizeOf20
  v20 := Tryz.zeroValue20
  t37 := Tryz.underlying120
  a37 := Tryz.isAgg120
  z37 := Tryz.sizeOf120
  v37 := Tryz.zeroValue120
  t46 := Tryz.underlying347
  a46 := Tryz.isAgg347
  z46 := Tryz.sizeOf347
  v46 := Tryz.zeroValue347
  t51 := Tryz.underlying23
  a51 := Tryz.isAgg23
  z51 := Tryz.sizeOf23
  v51 := Tryz.zeroValue23
  t53 := Tryz.underlying115
  a53 := Tryz.isAgg115
  z53 := Tryz.sizeOf115
  v53 := Tryz.zeroValue115
  t171 := Tryz.underlying402
  a171 := Tryz.isAgg402
  z171 := Tryz.sizeOf402
  v171 := Tryz.zeroValue402
  t173 := Tryz.underlying404
  a173 := Tryz.isAgg404
  z173 := Tryz.sizeOf404
  v173 := Tryz.zeroValue404
  t212 := Tryz.underlying427
  a212 := Tryz.isAgg427
  z212 := Tryz.sizeOf427
  v212 := Tryz.zeroValue427
  t213 := Tryz.underlying428
  a213 := Tryz.isAgg428
  z213 := Tryz.sizeOf428
  t232 := Tryz.underlying470
  a232 := Tryz.isAgg470
  z232 := Tryz.sizeOf470
  v232 := Tryz.zeroValue470
  t233 := Tryz.underlying471
  a233 := Tryz.isAgg471
  z233 := Tryz.sizeOf471
  v233 := Tryz.zeroValue471
  g17 := by kernel_rfl
  g18 := by kernel_rfl
  g19 := by kernel_rfl
  i0 := by kernel_rfl
  i2 := by kernel_rfl
  i3 := by kernel_rfl
  i4 := by kernel_rfl
  i5 := by kernel_rfl
  i9 := by kernel_rfl
  i20 := by kernel_rfl
  i37 := by kernel_rfl
  i46 := by kernel_rfl
  i51 := by kernel_rfl
  i53 := by kernel_rfl
  i171 := by kernel_rfl
  i173 := by kernel_rfl
  i212 := by kernel_rfl
  i232 := by kernel_rfl
  i233 := by kernel_rfl
  m17 := by kernel_rfl
  m18 := by kernel_rfl
  m19 := by kernel_rfl }
open Go.RowKit Go.Sort Go.Lib in
theorem Tryz.strconv_FormatInt_10 (n : Int) (h0 : -9223372036854775808 ≤ n) (h1 : n ≤ 9223372036854775807) (w : World) (htab : Lib.TabIs Tryz.prog w "internal/strconv.uint64pow10" .u64 Lib.pow10Tab) :
    Calls Tryz.prog 334 #[.int .i64 n, .int .i64 10] w fun e w' => e = .returned (.string ⟨(Lib.itoa n).toArray⟩) ∧ ∃ k os, w' = grow (w.drewN k) os := Any.strconv_FormatInt_10 Tryz.laysM173 n h0 h1 w htab
end Go.Proofs
namespace Go.Proofs.YtbjeejimedhniaaGreatDoor
namespace K92
open Go Go.RowKit KB K1 K2 K88 K89
def joinL (l : List ByteArray) (sep : ByteArray) : List UInt8 := Lib.join (l.map (·.data.toList)) sep.data.toList
theorem joinC (F : Nat → Prop) (A : Option Addr) (c : Nat) (l : List ByteArray) (sep : ByteArray) (w : World) (h : rdStr.Sl F w A c l) (hn : l.length ≤ 1000000) (hlen : (joinL l sep).length ≤ 1000000000) :
   Calls Tryz.prog 195 #[.slice A l.length c, .string sep] w fun e w' => e = .returned (.string (BA (joinL l sep))) ∧ Ext w w' := by
 cases hl : l with
 | nil =>
   refine (Tryz.strings_Join_none A c sep w).mono ?_
   rintro e w' ⟨rfl, rfl⟩
   exact ⟨rfl, Ext.refl _⟩
 | cons x l' =>
   rw [← hl]
   obtain ⟨b, o, rfl, hc⟩ := str_get h (k := 0) (by rw [hl]; simp)
   refine (Tryz.strings_Join b o c l sep w (fun j y hj => ?_) ?_ (by omega) h.le (Nat.le_trans hlen (by omega))).mono ?_
   · have hjl := (List.getElem?_eq_some_iff.1 hj).1
     obtain ⟨b', o', e, hc'⟩ := str_get h hjl
     cases e
     rw [hc', (List.getElem?_eq_some_iff.1 hj).2]
   · exact World.block_lt_of_cell? w _ hc
   · rintro e w' ⟨rfl, hE⟩
     exact ⟨rfl, hE⟩
def SaysR (w : World) (ts : List Int) (r : Row) (ss : List ByteArray) : Prop := ss.length = ts.length ∧ r.length = ts.length ∧ ∀ k (h : k < ts.length) (h1 : k < r.length) (h2 : k < ss.length), (r[k]).2 = emp ∧ Says w ts[k] ss[k] (r[k]).1
theorem SaysR.ext {w w' : World} {ts : List Int} {r : Row} {ss : List ByteArray} (h : SaysR w ts r ss) (k : Ext w w') : SaysR w' ts r ss := ⟨h.1, h.2.1, fun i a b c => ⟨(h.2.2 i a b c).1, (h.2.2 i a b c).2.ext k⟩⟩
theorem rowC (F : Nat → Prop) (db : Nat) (v0 v1 v3 v4 v5 : Value) (At : Option Addr) (ct : Nat) (ts : List Int) (w : World) (hb : w.heap[db]? = some (.cells #[v0, v1, .slice At ts.length ct, v3, v4, v5] 118 (0, 0)))
   (ht : (rdInt .i64).Sl F w At ct ts) (Ar : Option Addr) (cr : Nat) (r : Row) (hr : rdVal.Sl F w Ar cr r) (ss : List ByteArray) (h : SaysR w ts r ss) (hn : ts.length ≤ 1000) (hlen : (joinL ss ⟨#[32]⟩).length ≤ 1000000000) (hF : ∀ k, F k → k < w.heap.size) :
   Calls Tryz.prog 196 #[.pointer (some ⟨db, 0, none⟩), .slice Ar r.length cr] w fun e w' => e = .returned (.string (BA (joinL ss ⟨#[32]⟩))) ∧ Ext w w' := by
 have HS := As.mk h
 have H1 := As.mk h.1
 have H2 := As.mk h.2.1
 clear h
 (have p0 := bC (hb) 0; have p1 := bC (hb) 1; have p2 := bC (hb) 2; have p3 := bC (hb) 3; have p4 := bC (hb) 4; have p5 := bC (hb) 5)
 go_enter Tryz.func196, Tryz.ntmps196
 go_wp2_with (fail)
 go_loopw [5, 14] (fun v i wr => ∃ k : Nat, i = .int .i64 k ∧ k ≤ ts.length ∧ rdStr.Own F w.heap.size 9 wr v (ss.take k) ∧ Ext w wr) (fun _ i _ => ts.length - (intOf i).toNat)
 case atStart => exact ⟨0, by go_num, Nat.zero_le _, Rd.Own.nil _ _ _ _ _, Ext.refl _⟩
 case round =>
   obtain ⟨k, rfl, hkl, hown, hE⟩ := hrel
   by_cases hlt : k < ts.length
   · obtain ⟨b, o, rfl, hc⟩ := int_get (ht.ext hE) hlt
     have hkr : k < r.length := by rw [H2.out]; exact hlt
     have hks : k < ss.length := by rw [H1.out]; exact hlt
     obtain ⟨b2, o2, rfl, hr0, hr1⟩ := val_get (hr.ext hE) hkr
     obtain ⟨hs1, hs2⟩ := HS.out.2.2 k hlt hkr hks
     obtain ⟨n, hn0⟩ : ∃ n, (r[k]).1 = n := ⟨_, rfl⟩
     obtain ⟨tt, ht0⟩ : ∃ tt, ts[k] = tt := ⟨_, rfl⟩
     obtain ⟨s, hs0⟩ : ∃ s, ss[k] = s := ⟨_, rfl⟩
     rw [hs0, ht0, hn0] at hs2
     rw [ht0] at hc
     rw [hn0] at hr0
     rw [hs1] at hr1
     have HN := As.mk (textC tt s n wr (hs2.ext hE))
     have HS0 := As.mk hs0
     have hfk : As ((ss.take k).length = k) := ⟨by rw [List.length_take]; omega⟩
     clear hs1 hs2 hn0 hs0 ht0
     go_wp2_with (fail)
     refine HN.out.mono ?_; rintro e w1 ⟨rfl, hE1⟩
     have hownc := hown.ext hE1
     have hE01 := hE.trans hE1
     go_wp2_with (first | (at_builtin; refine wpList_push rfl _ _ _ rfl rdStr elStr rfl (hownc.ext ((Ext.refl _).alloc _)) rfl (heap_alloc_new _ _) (y := s) rfl (by rw [hfk.out]; omega) (by rw [hfk.out]; unfold maxLen; omega) (by have := hE01.size; simp; omega) (hE01.alloc _) ?_; intro v' w2 hown2 hg2 hE2))
     rw [← HS0.out, ← take_succ_get ss k hks] at hown2
     go_roundw
     case rel => exact ⟨k + 1, by go_num, by omega, hown2, hE2⟩
     case measure => simp [intOf] <;> omega
   · obtain rfl : k = ts.length := by omega
     have hfin : ss.take ts.length = ss := List.take_of_length_le (by rw [H1.out]; exact Nat.le_refl _)
     rw [hfin] at hown
     obtain ⟨Az, cz, rfl, hsl⟩ := hown.shut hF
     have HJ := As.mk (joinC F Az cz ss ⟨#[32]⟩ _ hsl (by rw [H1.out]; omega) hlen)
     clear hfin hown hsl
     go_wp2_with (fail)
     refine HJ.out.mono ?_; rintro e w1 ⟨rfl, hE1⟩
     go_wp2_with (fail)
     go_ret
     exact ⟨rfl, hE.trans hE1⟩
end K92
end Go.Proofs.YtbjeejimedhniaaGreatDoor
