/-
  The contracts of texts.Put and of the reference's Put.
-/
import Derived.Test.YtnecipeckamiiaaCDict
import Derived.Test.YtnecipeckamiiaaCRDict
namespace Go.Proofs.Ytnecipeckamiiaa.CPutT
open Go.RowKit Go.Proofs.Ytnecipeckamiiaa.RVar Go.Proofs.Ytnecipeckamiiaa.QTextsAll Go.Proofs.YtnecipeckamiiaaW.PrintWords Go.Proofs.YtnecipeckamiiaaW.PrintLast Go.Proofs.YtnecipeckamiiaaW.PrintMore Go.Proofs.Ytnecipeckamiiaa.Num Go.Proofs.Ytnecipeckamiiaa.Bits Go.Proofs.Ytnecipeckamiiaa.VarM Go.Proofs.Ytnecipeckamiiaa.TextsT Go.Proofs.Ytnecipeckamiiaa.Hold Go.Proofs.Ytnecipeckamiiaa.HoldS Go.Proofs.Ytnecipeckamiiaa.CEach Go.Proofs.Ytnecipeckamiiaa.KDict Go.Proofs.Ytnecipeckamiiaa.CREach Go.Proofs.Ytnecipeckamiiaa.CPlace Go.Proofs.Ytnecipeckamiiaa.CDict Go.Proofs.Ytnecipeckamiiaa.CRDict
set_option linter.unusedVariables false
set_option linter.unusedSimpArgs false
attribute [local go_sem] max2_int min2_int max_two min_two max_three min_three max_four min_four

theorem dict_le (l : List ByteArray) (h : ∀ s ∈ l, s.size ≤ 1000) (hl : l.length ≤ 2000) : (dict l).length ≤ 3000000 := by
  have h1 := each_le (words [] l) 1000 (fun x hx => (words_mem l [] x hx).elim (fun h0 => by cases h0) (h x)) (by decide)
  have h2 := wheres_le l [] (by rw [List.length_nil]; omega)
  have h3 := words_length l []
  rw [List.length_nil, Nat.zero_add] at h3
  have h4 := pv_le10 (words [] l).length (by omega)
  rw [dict, List.length_append, List.length_append]
  omega
theorem put_1 {l : List ByteArray} (h : (dict l).length < (each l).length) : put l = (pv l.length ++ [1]) ++ dict l := by rw [put, if_pos h]; simp
theorem put_0 {l : List ByteArray} (h : ¬ (dict l).length < (each l).length) : put l = (pv l.length ++ [0]) ++ each l := by rw [put, if_neg h]; simp

set_option maxHeartbeats 8000000 in
set_option maxRecDepth 100000 in
theorem putC (A : Option Addr) (c : Nat) (l : List ByteArray) (w : World) (hr : Kd.C Kd.string w A l.length l) (hc : l.length ≤ c) (hl : l.length ≤ 2000) (hs : ∀ s ∈ l, s.size ≤ 1000) :
    Calls Try.prog 13 #[.slice A l.length c] w fun e w' => ∃ v, e = .returned v ∧ Kd.R (Kd.int .u8) 5 w' w.heap.size (fun _ => True) v (put l) ∧ Below w.heap.size w w' := by
  have HR := Aside0.mk hr
  have HS := Aside0.mk hs
  have hdl := Aside0.mk (dict_le l hs hl)
  have hel := Aside0.mk (each_le l 1000 hs (by decide))
  have hpl := Aside0.mk (pv_le10 l.length (by omega))
  clear hr hs
  have hwu : IntKind.u64.wrap (l.length : Int) = (l.length : Int) := wrap_u64_id (by omega) (by omega)
  by_cases hd : (dict l).length < (each l).length
  · have hput := Aside0.mk (put_1 hd)
    have hdb : decide ((dict l).length < (each l).length) = true := decide_eq_true hd
    have hdbi : decide (((dict l).length : Int) < ((each l).length : Int)) = true := decide_eq_true (by omega)
    have hdB := Aside0.mk hdb
    have hdBI := Aside0.mk hdbi
    clear hd hdb hdbi
    go_enter Try.func13, Try.ntmps13
    go_wp2_with (fail)
    refine (eachC A c l _ HR.out hc hl HS.out).mono ?_; rintro e w1 ⟨v, rfl, ho, hb⟩
    obtain ⟨Ae, ce, rfl, le, ho⟩ := R_C ho
    have HE := Aside0.mk ho
    have HB1 := Aside0.mk hb
    have HR1 := Aside0.mk (Kd.C_below HR.out hb)
    clear ho hb
    go_wp2_with (fail)
    refine (dictC A c l _ HR1.out hc hl HS.out).mono ?_; rintro e w2 ⟨v, rfl, ho, hb⟩
    obtain ⟨Ad, cd, rfl, ld, ho⟩ := R_C ho
    have HD := Aside0.mk ho
    have HB2 := Aside0.mk (below_step HB1.out hb)
    have HE2 := Aside0.mk (Kd.C_below HE.out hb)
    clear ho hb HR1 HE HB1
    generalize dict l = D at *
    generalize each l = E at *
    have hdb := hdB.out
    have hdbi := hdBI.out
    go_wp2_with (fail)
    refine (putVar (l.length : Int) (by omega) (by omega) _).mono ?_; rintro e w3 ⟨v, rfl, ho, hb⟩
    rw [Int.toNat_natCast] at ho
    have HO3 := Aside0.mk ho
    have HB3 := Aside0.mk hb
    clear ho hb hwu hdb hdbi
    generalize pv l.length = P at HO3 hput hpl
    go_wp2_with (first
      | (at_builtin; refine appendOne (k := .u8) (w0 := w2) rfl (.tmp 19) (.tmp 21) 25 5 1 rfl Try.underlying25 CEach.info_u8 (by decide) _ P 1 rfl rfl HO3.out HB3.out (by have := hpl.out; omega) ?_; intro v4 w4 ho4 hb4; have HO4 := Aside0.mk ho4; have HB4 := Aside0.mk hb4; have HR4 := Aside0.mk (Kd.C_below HD.out hb4); clear ho4 hb4)
      | (at_builtin; refine appendRow (k := .u8) (w0 := w2) rfl (.tmp 22) (.tmp 23) 25 5 1 rfl Try.underlying25 CEach.info_u8 (by decide) _ (P ++ [1]) D Ad D.length cd rfl rfl HO4.out HR4.out HB4.out (by have := hel.out; have := hdl.out; have := hpl.out; rw [List.length_append, List.length_singleton]; omega) ?_; intro v5 w5 ho5 hb5; have HO5 := Aside0.mk ho5; have HB5 := Aside0.mk hb5; clear ho5 hb5))
    go_ret
    exact ⟨_, rfl, by rw [hput.out]; exact Kd.R_lower HO5.out HB2.out.size, below_step HB2.out HB5.out⟩
  · have hput := Aside0.mk (put_0 hd)
    have hdb : decide ((dict l).length < (each l).length) = false := decide_eq_false hd
    have hdbi : decide (((dict l).length : Int) < ((each l).length : Int)) = false := decide_eq_false (by omega)
    have hdB := Aside0.mk hdb
    have hdBI := Aside0.mk hdbi
    clear hd hdb hdbi
    go_enter Try.func13, Try.ntmps13
    go_wp2_with (fail)
    refine (eachC A c l _ HR.out hc hl HS.out).mono ?_; rintro e w1 ⟨v, rfl, ho, hb⟩
    obtain ⟨Ae, ce, rfl, le, ho⟩ := R_C ho
    have HE := Aside0.mk ho
    have HB1 := Aside0.mk hb
    have HR1 := Aside0.mk (Kd.C_below HR.out hb)
    clear ho hb
    go_wp2_with (fail)
    refine (dictC A c l _ HR1.out hc hl HS.out).mono ?_; rintro e w2 ⟨v, rfl, ho, hb⟩
    obtain ⟨Ad, cd, rfl, ld, ho⟩ := R_C ho
    have HD := Aside0.mk ho
    have HB2 := Aside0.mk (below_step HB1.out hb)
    have HE2 := Aside0.mk (Kd.C_below HE.out hb)
    clear ho hb HR1 HE HB1
    generalize dict l = D at *
    generalize each l = E at *
    have hdb := hdB.out
    have hdbi := hdBI.out
    go_wp2_with (fail)
    refine (putVar (l.length : Int) (by omega) (by omega) _).mono ?_; rintro e w3 ⟨v, rfl, ho, hb⟩
    rw [Int.toNat_natCast] at ho
    have HO3 := Aside0.mk ho
    have HB3 := Aside0.mk hb
    clear ho hb hwu hdb hdbi
    generalize pv l.length = P at HO3 hput hpl
    go_wp2_with (first
      | (at_builtin; refine appendOne (k := .u8) (w0 := w2) rfl (.tmp 19) (.tmp 21) 25 5 1 rfl Try.underlying25 CEach.info_u8 (by decide) _ P 0 rfl rfl HO3.out HB3.out (by have := hpl.out; omega) ?_; intro v4 w4 ho4 hb4; have HO4 := Aside0.mk ho4; have HB4 := Aside0.mk hb4; have HR4 := Aside0.mk (Kd.C_below HE2.out hb4); clear ho4 hb4)
      | (at_builtin; refine appendRow (k := .u8) (w0 := w2) rfl (.tmp 22) (.tmp 23) 25 5 1 rfl Try.underlying25 CEach.info_u8 (by decide) _ (P ++ [0]) E Ae E.length ce rfl rfl HO4.out HR4.out HB4.out (by have := hel.out; have := hdl.out; have := hpl.out; rw [List.length_append, List.length_singleton]; omega) ?_; intro v5 w5 ho5 hb5; have HO5 := Aside0.mk ho5; have HB5 := Aside0.mk hb5; clear ho5 hb5))
    go_ret
    exact ⟨_, rfl, by rw [hput.out]; exact Kd.R_lower HO5.out HB2.out.size, below_step HB2.out HB5.out⟩

set_option maxHeartbeats 8000000 in
set_option maxRecDepth 100000 in
theorem refPutT (A : Option Addr) (c : Nat) (l : List ByteArray) (w : World) (hr : Kd.C Kd.string w A l.length l) (hc : l.length ≤ c) (hl : l.length ≤ 2000) (hs : ∀ s ∈ l, s.size ≤ 1000) :
    Calls Try.prog 19 #[.slice A l.length c] w fun e w' => ∃ v, e = .returned v ∧ Kd.R (Kd.int .u8) 5 w' w.heap.size (fun _ => True) v (put l) ∧ Below w.heap.size w w' := by
  have HR := Aside0.mk hr
  have HS := Aside0.mk hs
  have hdl := Aside0.mk (dict_le l hs hl)
  have hel := Aside0.mk (each_le l 1000 hs (by decide))
  have hpl := Aside0.mk (pv_le10 l.length (by omega))
  clear hr hs
  have hwu : IntKind.u64.wrap (l.length : Int) = (l.length : Int) := wrap_u64_id (by omega) (by omega)
  by_cases hd : (dict l).length < (each l).length
  · have hput := Aside0.mk (put_1 hd)
    have hdb : decide ((dict l).length < (each l).length) = true := decide_eq_true hd
    have hdbi : decide (((dict l).length : Int) < ((each l).length : Int)) = true := decide_eq_true (by omega)
    have hdB := Aside0.mk hdb
    have hdBI := Aside0.mk hdbi
    clear hd hdb hdbi
    go_enter Try.func19, Try.ntmps19
    go_wp2_with (fail)
    refine (refPut (l.length : Int) (by omega) (by omega) _).mono ?_; rintro e w1 ⟨v, rfl, ho, hb⟩
    rw [Int.toNat_natCast] at ho
    have HO1 := Aside0.mk ho
    have HB1 := Aside0.mk hb
    have HR1 := Aside0.mk (Kd.C_below HR.out hb)
    have hlt := Aside0.mk (fun j hj => own_lt (Kd.own_of_R ho) j hj)
    obtain ⟨Ap, cp, rfl, lp, hop⟩ := R_C ho
    clear ho hb hwu hop
    go_wp2_with (fail)
    refine (refDict A c l _ HR1.out hc hl HS.out).mono ?_; rintro e w2 ⟨v, rfl, ho, hb⟩
    obtain ⟨Ad, cd, rfl, ld, hod⟩ := R_C ho
    have HD := Aside0.mk ho
    have HB2 := Aside0.mk (below_step HB1.out hb)
    have HR2 := Aside0.mk (Kd.C_below HR1.out hb)
    have HO2 := Aside0.mk (Kd.R_below HO1.out hb)
    have hle := Aside0.mk hb.size
    clear ho hb hod HR1 HO1 HB1
    go_wp2_with (fail)
    refine (refEach A c l _ HR2.out hc hl HS.out).mono ?_; rintro e w3 ⟨v, rfl, ho, hb⟩
    obtain ⟨Ae, ce, rfl, le, hod⟩ := R_C ho
    have HE3 := Aside0.mk (Kd.R_lower ho hle.out)
    have HB3 := Aside0.mk (below_step HB2.out hb)
    have HD3 := Aside0.mk (Kd.R_below HD.out hb)
    have HO3 := Aside0.mk (Kd.R_below HO2.out hb)
    clear ho hb hod HR2 HO2 HB2 HD
    generalize dict l = D at *
    generalize each l = E at *
    generalize pv l.length = P at *
    have hdb := hdB.out
    have hdbi := hdBI.out
    go_wp2_with (first
      | (at_builtin; refine appendOneG (k := .u8) (w0 := w) rfl (.tmp 19) (.tmp 20) 25 5 1 rfl Try.underlying25 CEach.info_u8 (by decide) _ P 1 rfl rfl HO3.out HB3.out (by have := hpl.out; omega) ?_; intro v4 w4 ho4 hb4 hg4 hat; have HO4 := Aside0.mk ho4; have HB4 := Aside0.mk hb4; have HR4 := Aside0.mk (C_after HD3.out hlt.out hg4); clear ho4 hb4 hg4 hat)
      | (at_builtin; refine appendRow (k := .u8) (w0 := w) rfl (.tmp 21) (.tmp 22) 25 5 1 rfl Try.underlying25 CEach.info_u8 (by decide) _ (P ++ [1]) D Ad D.length cd rfl rfl HO4.out HR4.out HB4.out (by have := hel.out; have := hdl.out; have := hpl.out; rw [List.length_append, List.length_singleton]; omega) ?_; intro v5 w5 ho5 hb5; have HO5 := Aside0.mk ho5; have HB5 := Aside0.mk hb5; clear ho5 hb5))
    go_ret
    exact ⟨_, rfl, by rw [hput.out]; exact HO5.out, HB5.out⟩
  · have hput := Aside0.mk (put_0 hd)
    have hdb : decide ((dict l).length < (each l).length) = false := decide_eq_false hd
    have hdbi : decide (((dict l).length : Int) < ((each l).length : Int)) = false := decide_eq_false (by omega)
    have hdB := Aside0.mk hdb
    have hdBI := Aside0.mk hdbi
    clear hd hdb hdbi
    go_enter Try.func19, Try.ntmps19
    go_wp2_with (fail)
    refine (refPut (l.length : Int) (by omega) (by omega) _).mono ?_; rintro e w1 ⟨v, rfl, ho, hb⟩
    rw [Int.toNat_natCast] at ho
    have HO1 := Aside0.mk ho
    have HB1 := Aside0.mk hb
    have HR1 := Aside0.mk (Kd.C_below HR.out hb)
    have hlt := Aside0.mk (fun j hj => own_lt (Kd.own_of_R ho) j hj)
    obtain ⟨Ap, cp, rfl, lp, hop⟩ := R_C ho
    clear ho hb hwu hop
    go_wp2_with (fail)
    refine (refDict A c l _ HR1.out hc hl HS.out).mono ?_; rintro e w2 ⟨v, rfl, ho, hb⟩
    obtain ⟨Ad, cd, rfl, ld, hod⟩ := R_C ho
    have HD := Aside0.mk ho
    have HB2 := Aside0.mk (below_step HB1.out hb)
    have HR2 := Aside0.mk (Kd.C_below HR1.out hb)
    have HO2 := Aside0.mk (Kd.R_below HO1.out hb)
    have hle := Aside0.mk hb.size
    clear ho hb hod HR1 HO1 HB1
    go_wp2_with (fail)
    refine (refEach A c l _ HR2.out hc hl HS.out).mono ?_; rintro e w3 ⟨v, rfl, ho, hb⟩
    obtain ⟨Ae, ce, rfl, le, hod⟩ := R_C ho
    have HE3 := Aside0.mk (Kd.R_lower ho hle.out)
    have HB3 := Aside0.mk (below_step HB2.out hb)
    have HD3 := Aside0.mk (Kd.R_below HD.out hb)
    have HO3 := Aside0.mk (Kd.R_below HO2.out hb)
    clear ho hb hod HR2 HO2 HB2 HD
    generalize dict l = D at *
    generalize each l = E at *
    generalize pv l.length = P at *
    have hdb := hdB.out
    have hdbi := hdBI.out
    go_wp2_with (first
      | (at_builtin; refine appendOneG (k := .u8) (w0 := w) rfl (.tmp 24) (.tmp 25) 25 5 1 rfl Try.underlying25 CEach.info_u8 (by decide) _ P 0 rfl rfl HO3.out HB3.out (by have := hpl.out; omega) ?_; intro v4 w4 ho4 hb4 hg4 hat; have HO4 := Aside0.mk ho4; have HB4 := Aside0.mk hb4; have HR4 := Aside0.mk (C_after HE3.out hlt.out hg4); clear ho4 hb4 hg4 hat)
      | (at_builtin; refine appendRow (k := .u8) (w0 := w) rfl (.tmp 26) (.tmp 27) 25 5 1 rfl Try.underlying25 CEach.info_u8 (by decide) _ (P ++ [0]) E Ae E.length ce rfl rfl HO4.out HR4.out HB4.out (by have := hel.out; have := hdl.out; have := hpl.out; rw [List.length_append, List.length_singleton]; omega) ?_; intro v5 w5 ho5 hb5; have HO5 := Aside0.mk ho5; have HB5 := Aside0.mk hb5; clear ho5 hb5))
    go_ret
    exact ⟨_, rfl, by rw [hput.out]; exact HO5.out, HB5.out⟩

end Go.Proofs.Ytnecipeckamiiaa.CPutT
