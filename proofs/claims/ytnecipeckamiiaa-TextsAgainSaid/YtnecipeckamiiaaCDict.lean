/-
  The contract of texts.Dict.
-/
import Derived.Test.YtnecipeckamiiaaKDict
namespace Go.Proofs.Ytnecipeckamiiaa.CDict
open Go.RowKit Go.Proofs.Ytnecipeckamiiaa.QTextsAll Go.Proofs.YtnecipeckamiiaaW.PrintWords Go.Proofs.YtnecipeckamiiaaW.PrintLast Go.Proofs.YtnecipeckamiiaaW.PrintMore Go.Proofs.Ytnecipeckamiiaa.Num Go.Proofs.Ytnecipeckamiiaa.Bits Go.Proofs.Ytnecipeckamiiaa.VarM Go.Proofs.Ytnecipeckamiiaa.TextsT Go.Proofs.Ytnecipeckamiiaa.Hold Go.Proofs.Ytnecipeckamiiaa.HoldS Go.Proofs.Ytnecipeckamiiaa.CEach Go.Proofs.Ytnecipeckamiiaa.KDict
set_option linter.unusedVariables false
set_option linter.unusedSimpArgs false
attribute [local go_sem] max2_int min2_int max_two min_two max_three min_three max_four min_four

set_option maxHeartbeats 8000000 in
set_option maxRecDepth 100000 in
theorem dictC (A : Option Addr) (c : Nat) (l : List ByteArray) (w : World) (hr : Kd.C Kd.string w A l.length l) (hc : l.length ≤ c) (hl : l.length ≤ 2000) (hs : ∀ s ∈ l, s.size ≤ 1000) :
    Calls Try.prog 11 #[.slice A l.length c] w fun e w' => ∃ v, e = .returned v ∧ Kd.R (Kd.int .u8) 5 w' w.heap.size (fun _ => True) v (dict l) ∧ Below w.heap.size w w' := by
  have HR := Aside0.mk hr
  have HS := Aside0.mk hs
  clear hr hs
  have hmm := @run_makeMap Try.prog
  go_enter Try.func11, Try.ntmps11
  go_wp2_with (fail)
  go_loopw [4, 5, 14] (fun v4 v5 v14 wr => ∃ i : Nat, v14 = .int .i64 i ∧ i ≤ l.length ∧ Aside0 (DInv w wr v4 v5 (words [] (l.take i)) (wheres [] (l.take i)) (words [] (l.take i)))) (fun _ _ v14 _ => l.length - (intOf v14).toNat)
  case atStart => exact ⟨0, by go_num, by omega, ⟨DInv.start w⟩⟩
  case round =>
    obtain ⟨i, rfl, hil, HD⟩ := hrel
    have hal := words_length (l.take i) []
    have hpl0 := wheres_le (l.take i) [] (by rw [List.length_take, List.length_nil]; omega)
    have htk : (l.take i).length = i := by rw [List.length_take]; omega
    rw [htk] at hal hpl0
    rw [List.length_nil, Nat.zero_add] at hal
    clear htk
    by_cases hi : i < l.length
    · obtain ⟨ad, rfl, hcell⟩ := Kd.at_string (Kd.C_below HR.out HD.out.below) (i : Int) (by omega) (by omega)
      have hiI : (i : Int) < (l.length : Int) := by omega
      have hi0 : (0 : Int) ≤ (i : Int) := by omega
      obtain ⟨s, hsx⟩ : ∃ s, rdOf ByteArray.empty l (i : Int) = s := ⟨_, rfl⟩
      have hs1 : s.size ≤ 1000 := by
        rw [← hsx, rdOf, Int.toNat_natCast, List.getD_eq_getElem?_getD, List.getElem?_eq_getElem hi]
        exact HS.out _ (List.getElem_mem hi)
      have hsn := Aside0.mk (take_snoc l i hi)
      rw [hsx] at hcell hsn
      rw [Int.toNat_natCast] at hcell
      clear hsx
      have hwn := words_snoc (l.take i) s []
      have hpn := wheres_snoc (l.take i) s []
      rw [← hsn.out] at hwn hpn
      clear hsn
      generalize wheres [] (l.take i) = ps at HD hpn hpl0
      generalize words [] (l.take i) = acc at HD hwn hpn hal
      have HPN := Aside0.mk hpn
      have HWN := Aside0.mk hwn
      clear hpn hwn
      have hwr : wrap64 ((i : Int) + 1) = ((i + 1 : Nat) : Int) := by rw [wrap64_id (by omega) (by omega)]; rfl
      have HX := Aside0.mk (show acc.idxOf s ≤ acc.length from List.idxOf_le_length)
      have hwu : IntKind.u64.wrap ((acc.idxOf s : Nat) : Int) = ((acc.idxOf s : Nat) : Int) := wrap_u64_id (by omega) (by have := HX.out; omega)
      have HAL := Aside0.mk hal
      have HPL := Aside0.mk hpl0
      clear hal hpl0
      have HD0 := HD
      replace HD := Aside0.mk (HD.out.alloc (.cells #[.string s] 39))
      by_cases hin : s ∈ acc
      · have hd1 : decide (s ∈ acc) = true := decide_eq_true hin
        go_wp2_with (first
          | (at_lookup; refine lookOk rfl (.tmp 21) (.tmp 22) rfl w.heap.size acc rfl HD.out.map s (by unfold maxLen; omega) rfl ?_; intro cc)
          | (at_lookup; refine lookIn rfl (.tmp 37) (.tmp 38) rfl w.heap.size acc rfl HD.out.map s (by unfold maxLen; omega) hin rfl ?_))
        refine (putVar ((acc.idxOf s : Nat) : Int) (by omega) (by have := HX.out; have := HAL.out; omega) _).mono ?_; rintro e w1 ⟨v, rfl, ho, hb⟩
        rw [Int.toNat_natCast] at ho
        obtain ⟨Ap, cp, rfl, lp, ho⟩ := R_C ho
        have HP := Aside0.mk ho
        replace HD := Aside0.mk (HD.out.step hb)
        have hpp := Aside0.mk (pv_le10 (acc.idxOf s) (by have := HX.out; have := HAL.out; omega))
        clear ho hb hcell hwu
        generalize pv (acc.idxOf s) = P at HP lp hpp HPN
        go_wp2_with (first
          | (at_builtin; refine appendRowG (k := .u8) (w0 := w) rfl (.tmp 36) (.tmp 41) 25 5 1 rfl Try.underlying25 info_u8 (by decide) _ ps P Ap P.length cp rfl rfl HD.out.ps HP.out HD.out.below (by have := HPL.out; have := hpp.out; omega) ?_; intro v2 w2 ho2 hb2 hg2; have HD2 := Aside0.mk (HD.out.where_ ho2 hb2 hg2); clear ho2 hb2 hg2))
        go_roundw
        case rel => exact ⟨i + 1, by go_num, by omega, ⟨by rw [HWN.out, HPN.out, more, if_pos hin]; exact HD2.out⟩⟩
        case measure => clear hwr; simp [intOf]; omega
      · have hd1 : decide (s ∈ acc) = false := decide_eq_false hin
        have hix : acc.idxOf s = acc.length := List.idxOf_eq_length hin
        rw [hix] at HX hwu HPN
        clear hix
        obtain ⟨A4, c4, hv4, lc4, _⟩ := Kd.R_reads HD.out.ws
        replace hv4 := Aside0.mk hv4
        obtain rfl := hv4.out
        clear hv4
        have hbm : Aside0 (some wr.heap.size ≠ some w.heap.size) := ⟨fun h => by injection h with h; have := HD0.out.map.lt; omega⟩
        have hb4 : Aside0 (some wr.heap.size ≠ (Value.slice A4 acc.length c4).ownBlock) := ⟨fun h => by have := own_lt (Kd.own_of_R HD0.out.ws) _ h.symm; omega⟩
        have hbx0 := Aside0.mk (heap_alloc_new wr (.cells #[.string s] 39))
        have hins : Aside0 (s ∈ acc ++ [s]) := ⟨by simp⟩
        have hixs : Aside0 ((acc ++ [s]).idxOf s = acc.length) := ⟨by rw [List.idxOf_append, if_neg hin]; simp⟩
        go_wp2_with (first
          | (at_lookup; refine lookOk rfl (.tmp 21) (.tmp 22) rfl w.heap.size acc rfl HD.out.map s (by unfold maxLen; omega) rfl ?_; intro cc)
          | (at_mapUpdate; refine storeNew rfl (.tmp 28) (.tmp 29) (.tmp 31) rfl w.heap.size acc rfl HD.out.map s (by unfold maxLen; omega) hin rfl rfl (by have := HAL.out; omega) ?_; intro w1 hm1 hg1; have HD1 := Aside0.mk (HD.out.stored hm1 hg1); have hbx1 := Aside0.mk (box_kept hbx0.out hg1 hbm.out); clear hm1 hg1)
          | (at_builtin; refine appendOneS (w0 := w) rfl (.tmp 32) (.tmp 34) rfl _ acc s rfl rfl HD1.out.ws HD1.out.below (by have := HAL.out; omega) ?_; intro v4 w2 ho2 hb2 hg2; have HD2 := Aside0.mk (HD1.out.word ho2 hb2 hg2); have hbx2 := Aside0.mk (box_kept hbx1.out hg2 hb4.out); have hbx3 := box_cell hbx2.out; clear ho2 hb2 hg2)
          | (at_lookup; refine lookIn rfl (.tmp 37) (.tmp 38) rfl w.heap.size (acc ++ [s]) rfl HD2.out.map s (by unfold maxLen; omega) hins.out rfl ?_; rw [hixs.out]))
        refine (putVar ((acc.length : Nat) : Int) (by omega) (by have := HAL.out; omega) _).mono ?_; rintro e w3 ⟨v, rfl, ho, hb⟩
        rw [Int.toNat_natCast] at ho
        obtain ⟨Ap, cp, rfl, lp, ho⟩ := R_C ho
        have HP := Aside0.mk ho
        replace HD := Aside0.mk (HD2.out.step hb)
        have hpp := Aside0.mk (pv_le10 acc.length (by have := HAL.out; omega))
        clear ho hb hcell hwu hbx3
        generalize pv acc.length = P at HP lp hpp HPN
        go_wp2_with (first
          | (at_builtin; refine appendRowG (k := .u8) (w0 := w) rfl (.tmp 36) (.tmp 41) 25 5 1 rfl Try.underlying25 info_u8 (by decide) _ ps P Ap P.length cp rfl rfl HD.out.ps HP.out HD.out.below (by have := HPL.out; have := hpp.out; omega) ?_; intro v5 w5 ho2 hb2 hg2; have HD5 := Aside0.mk (HD.out.where_ ho2 hb2 hg2); clear ho2 hb2 hg2))
        go_roundw
        case rel => exact ⟨i + 1, by go_num, by omega, ⟨by rw [HWN.out, HPN.out, more, if_neg hin]; exact HD5.out⟩⟩
        case measure => clear hwr; simp [intOf]; omega
    · obtain rfl : i = l.length := by omega
      have hT := HD.out
      rw [List.take_of_length_le (Nat.le_refl _)] at hT hal hpl0
      have hwm : ∀ x ∈ words [] l, x.size ≤ 1000 := fun x hx => (words_mem l [] x hx).elim (fun h0 => by cases h0) (HS.out x)
      have HWM := Aside0.mk hwm
      have hdd : Aside0 (dict l = (pv (words [] l).length ++ each (words [] l)) ++ wheres [] l) := ⟨by rw [dict, List.append_assoc]⟩
      have hel := Aside0.mk (each_le (words [] l) 1000 hwm (by decide))
      clear hwm HD
      have HD := Aside0.mk hT
      clear hT
      generalize words [] l = acc at HD hal HWM hdd hel
      generalize wheres [] l = ps at HD hpl0 hdd
      obtain ⟨A4, c4, hv4, lc4, hr4⟩ := Kd.R_reads HD.out.ws
      obtain ⟨A5, c5, hv5, lc5, hr5⟩ := R_C HD.out.ps
      have HR4 := Aside0.mk hr4
      have HR5 := Aside0.mk hr5
      replace hv4 := Aside0.mk hv4
      replace hv5 := Aside0.mk hv5
      obtain rfl := hv4.out
      obtain rfl := hv5.out
      clear hv4 hv5 hr4 hr5
      have HAL := Aside0.mk hal
      have HPL := Aside0.mk hpl0
      have hwu : IntKind.u64.wrap ((acc.length : Nat) : Int) = ((acc.length : Nat) : Int) := wrap_u64_id (by omega) (by omega)
      clear hal hpl0
      go_wp2_with (fail)
      refine (putVar ((acc.length : Nat) : Int) (by omega) (by have := HAL.out; omega) _).mono ?_; rintro e w1 ⟨v, rfl, ho, hb⟩
      rw [Int.toNat_natCast] at ho
      have HO1 := Aside0.mk ho
      have HB1 := Aside0.mk hb
      have HR41 := Aside0.mk (Kd.C_below HR4.out hb)
      have hpp := Aside0.mk (pv_le10 acc.length (by have := HAL.out; omega))
      clear ho hb hwu
      generalize pv acc.length = P at HO1 hpp hdd
      go_wp2_with (fail)
      refine (eachC A4 c4 acc _ HR41.out lc4 (by have := HAL.out; omega) HWM.out).mono ?_; rintro e w2 ⟨v2, rfl, ho, hb⟩
      obtain ⟨Ae, ce, rfl, le, ho⟩ := R_C ho
      have HE := Aside0.mk ho
      have HO2 := Aside0.mk (Kd.R_below HO1.out hb)
      have HB2 := Aside0.mk (below_step HB1.out hb)
      clear ho hb
      generalize each acc = E at HE le hel hdd
      go_wp2_with (first
        | (at_builtin; refine appendRow (k := .u8) (w0 := wr) rfl (.tmp 47) (.tmp 49) 25 5 1 rfl Try.underlying25 info_u8 (by decide) _ P E Ae E.length ce rfl rfl HO2.out HE.out HB2.out (by have := hel.out; have := HAL.out; have := hpp.out; omega) ?_; intro v3 w3 ho2 hb2; have HO3 := Aside0.mk ho2; have HB3 := Aside0.mk hb2; have HR53 := Aside0.mk (Kd.C_below HR5.out hb2); clear ho2 hb2)
        | (at_builtin; refine appendRow (k := .u8) (w0 := wr) rfl (.tmp 50) (.tmp 51) 25 5 1 rfl Try.underlying25 info_u8 (by decide) _ (P ++ E) ps A5 ps.length c5 rfl rfl HO3.out HR53.out HB3.out (by have := hel.out; have := HAL.out; have := hpp.out; have := HPL.out; rw [List.length_append]; omega) ?_; intro v4 w4 ho2 hb2; have HO4 := Aside0.mk ho2; have HB4 := Aside0.mk hb2; clear ho2 hb2))
      go_ret
      exact ⟨_, rfl, by rw [hdd.out]; exact Kd.R_lower HO4.out HD.out.below.size, below_step HD.out.below HB4.out⟩

end Go.Proofs.Ytnecipeckamiiaa.CDict
