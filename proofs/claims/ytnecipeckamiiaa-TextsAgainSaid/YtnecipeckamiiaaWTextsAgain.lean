/- The walk of the law TextsAgain. -/
import Derived.Test.YtnecipeckamiiaaWTextsPlaces
namespace Go.Proofs.Ytnecipeckamiiaa.WTextsAgain
open Go.RowKit Go.Proofs.YtnecipeckamiiaaW.PrintWords Go.Proofs.YtnecipeckamiiaaW.PrintLast Go.Proofs.YtnecipeckamiiaaW.PrintMore Go.Proofs.Ytnecipeckamiiaa.Num Go.Proofs.Ytnecipeckamiiaa.Bits Go.Proofs.Ytnecipeckamiiaa.VarM Go.Proofs.Ytnecipeckamiiaa.TextsT Go.Proofs.Ytnecipeckamiiaa.Hold Go.Proofs.Ytnecipeckamiiaa.HoldS Go.Proofs.Ytnecipeckamiiaa.CEach Go.Proofs.Ytnecipeckamiiaa.KDict Go.Proofs.Ytnecipeckamiiaa.CDict Go.Proofs.Ytnecipeckamiiaa.CPutT Go.Proofs.Ytnecipeckamiiaa.CFewT Go.Proofs.Ytnecipeckamiiaa.CPlace
open Go.Proofs.Ytnecipeckamiiaa.WTextsPlaces (wheres_map words_split)
set_option linter.unusedVariables false
set_option linter.unusedSimpArgs false
attribute [local go_sem] max2_int min2_int max_two min_two max_three min_three max_four min_four

/-! ### the plain law -/
def rep (m : List ByteArray) : Nat → List ByteArray
  | 0 => []
  | n + 1 => rep m n ++ m
theorem rep_length (m : List ByteArray) (n : Nat) : (rep m n).length = n * m.length := by
  induction n with
  | zero => simp [rep]
  | succ n ih => rw [rep, List.length_append, ih, Nat.succ_mul]
theorem rep_mem (m : List ByteArray) (n : Nat) : ∀ s ∈ rep m n, s ∈ m := by
  induction n with
  | zero => intro s h; cases h
  | succ n ih => intro s h; exact (List.mem_append.1 h).elim (ih s) id
theorem words_in (l : List ByteArray) : ∀ acc, (∀ s ∈ l, s ∈ acc) → words acc l = acc := by
  induction l with
  | nil => intro acc _; rfl
  | cons s l ih =>
    intro acc h
    have h1 : more acc s = acc := if_pos (h s List.mem_cons_self)
    rw [words, h1]
    exact ih acc (fun t ht => h t (List.mem_cons_of_mem _ ht))
theorem mem_words (l : List ByteArray) : ∀ acc, ∀ s ∈ l, s ∈ words acc l := by
  induction l with
  | nil => intro acc s h; cases h
  | cons t l ih =>
    intro acc s h
    rcases List.mem_cons.1 h with rfl | h
    · obtain ⟨r, hr⟩ := words_prefix l (more acc s)
      rw [words, ← hr]
      exact List.mem_append_left _ more_sub
    · exact ih _ s h
theorem words_rep (m : List ByteArray) (n : Nat) : words [] (rep m (n + 1)) = words [] m := by
  induction n with
  | zero => simp [rep]
  | succ n ih => rw [rep, words_split, ih]; exact words_in m _ (mem_words m [])
theorem dict_rep (m : List ByteArray) (n : Nat) (hm : m.length ≤ 20) : (dict (rep m (n + 1))).length = 1 + (each (words [] m)).length + (n + 1) * m.length := by
  have hw := words_length m []
  rw [List.length_nil, Nat.zero_add] at hw
  have h := wheres_map (words [] m) (by omega) (rep m (n + 1)) [] (by rw [words_rep]; exact List.prefix_refl _)
  rw [dict, words_rep, h, pv_small (by omega), List.length_append, List.length_append, List.length_map, rep_length]
  simp
  omega

section
variable {ops : Array Oper} {rest : List Oper} {o : Oper} {a : Act} {Q : Exit → Act → World → Prop}
/-- append(v, ys...), texts. -/
theorem appendRowS {w0 W : World} (hgd : o.guard = none) (s x : Operand)
    (ho : o.op = .call { callee := .builtin .append, args := #[s, x], argTypes := #[22, 22] })
    (v : Value) (xs ys : List ByteArray) (A : Option Addr) (m c : Nat) (hs : a.eval s = v) (hx : a.eval x = .slice A m c)
    (HO : Kd.R Kd.string 9 W w0.heap.size (fun _ => True) v xs) (HR : Kd.C Kd.string W A m ys) (HB : Below w0.heap.size w0 W) (hl : (xs.length + m) * 16 ≤ 140737488355328)
    (h : ∀ v1 w1, Kd.R Kd.string 9 w1 w0.heap.size (fun _ => True) v1 (xs ++ ys) → Below w0.heap.size w0 w1 → wpList Try.prog ops Q rest (a.put o.dst v1) w1) :
    wpList Try.prog ops Q (o :: rest) a W :=
  Kd.R_append_rows Kd.string (w0 := w0) w0.heap.size hgd s x 22 9 (.string ⟨#[]⟩) 16 ho Try.underlying22 info_str rfl Nat.one_pos (by decide) v xs ys A m c (fun _ => True) (fun _ => False) hs hx HO HR
    (fun _ _ h => h) (fun _ h => h.elim) (fun _ _ => trivial) HB HB.size hl (fun v1 w1 hr hb _ _ => h v1 w1 hr hb)
end

set_option maxHeartbeats 8000000 in
set_option maxRecDepth 100000 in
theorem core_long (A : Option Addr) (c : Nat) (l f m : List ByteArray) (times : Int) (w : World) (hr : Kd.C Kd.string w A l.length l) (hc : l.length ≤ c) (hn : l.length < 10000000000000) (hf : fewL l = f) (hml : m.length ≤ 20) (hms : ∀ s ∈ m, s.size ≤ 60) (t0 : 0 ≤ times) (t1 : times ≤ 255)
    (N : Nat) (hN : 1 + times % 3 = (N : Int)) (hN1 : 1 ≤ N) (hN3 : N ≤ 3) (hD : (dict (rep m N)).length = 1 + (each (words [] m)).length + N * m.length) (hm : m = f.take 20) (hlong : (f.length : Int) > 20) (hbl : m.length = 20) :
    Calls Try.prog 3 #[.slice A l.length c, .int .u8 times] w fun e w' => e = .returned (.bool true) ∧ Below w.heap.size w w' := by
  have HR := Aside0.mk hr
  have HS2 : Aside0 (∀ s ∈ m, s.size ≤ 1000) := ⟨fun s h => by have := hms s h; omega⟩
  have HF := Aside0.mk hf
  have HM := Aside0.mk hm
  have HD := Aside0.mk hD
  have HN := Aside0.mk hN
  have HB := Aside0.mk (Below.refl w.heap.size w)
  clear hr hms hf hD hN hm
  go_enter Try.func3, Try.ntmps3
  go_wp2_with (fail)
  (with_reducible refine (shownC _).mono ?_); rintro e w1 ⟨rfl, hb⟩
  replace HB := Aside0.mk (below_step HB.out hb); replace HR := Aside0.mk (Kd.C_below HR.out hb); clear hb
  go_wp2_with (fail)
  refine (fewC A c l _ HR.out hc hn).mono ?_; rintro e w3 ⟨v, rfl, ho, hb⟩
  rw [HF.out] at ho
  obtain ⟨Am, cm, rfl, lm, hl⟩ := R_CS ho
  replace HB := Aside0.mk (below_step HB.out hb)
  have hl2 := Kd.C_take (m := 20) hl (by omega)
  rw [← HM.out] at hl2
  have HL := Aside0.mk hl2
  have hcut := cutTo (P := Try.prog) 22 9 Try.underlying22 info_str Am f.length cm 20 (by omega) (by omega) lm
  rw [show (20 : Int).toNat = m.length from by rw [hbl]; rfl] at hcut
  replace lm : m.length ≤ cm := by omega
  clear hb ho hl hl2 HR HF hn hbl
  go_wp2_with (fail)
  go_loopw [6, 7] (fun v6 v7 wr => ∃ i : Nat, v7 = .int .i64 i ∧ i ≤ m.length ∧ Aside0 (Kd.R Kd.string 9 wr w3.heap.size (fun _ => True) v6 (words [] (m.take i))) ∧ Aside0 (Below w3.heap.size w3 wr)) (fun _ v7 _ => m.length - (intOf v7).toNat)
  case atStart => exact ⟨0, by go_num, by omega, ⟨R_emptyS w3⟩, ⟨below_alloc (Below.refl _ _) _⟩⟩
  case round =>
    obtain ⟨i, rfl, hil, HO, HBr⟩ := hrel
    have hal := words_length (m.take i) []
    have htk : (m.take i).length = i := by rw [List.length_take]; omega
    rw [htk, List.length_nil, Nat.zero_add] at hal
    clear htk
    by_cases hi : i < m.length
    · have hwn := words_snoc (m.take i) (rdOf ByteArray.empty m (i : Int)) []
      rw [← take_snoc m i hi] at hwn
      have HWN := Aside0.mk hwn
      clear hwn
      obtain ⟨am, rfl, hcI⟩ := (Kd.at_string (Kd.C_below HL.out HBr.out) (i : Int) (by omega) (by omega))
      rw [Int.toNat_natCast] at hcI
      obtain ⟨s, hsx⟩ : ∃ s, rdOf ByteArray.empty m (i : Int) = s := ⟨_, rfl⟩
      rw [hsx] at hcI HWN
      have HSX := Aside0.mk hsx
      clear hsx
      generalize words [] (m.take i) = acc at HO hal HWN
      obtain ⟨A4, c4, hv4, lc4, hr4⟩ := Kd.R_reads HO.out
      have HR4 := Aside0.mk hr4
      replace hv4 := Aside0.mk hv4
      obtain rfl := hv4.out
      clear hv4 hr4
      have hiI : (i : Int) < (m.length : Int) := by omega
      have HCI := Aside0.mk hcI
      clear hcI
      go_wp2_with (fail)
      go_loopw [8, 9] (fun v8 v9 wk => ∃ (k : Nat) (b : Bool), v9 = .int .i64 k ∧ k ≤ acc.length ∧ v8 = .bool b ∧ Aside0 (b = decide (s ∈ acc.take k)) ∧ Aside0 (Drawn0 wr wk)) (fun _ v9 _ => acc.length - (intOf v9).toNat)
      case atStart => exact ⟨0, false, by go_num, by omega, rfl, ⟨by simp⟩, ⟨Drawn0.refl _⟩⟩
      case round =>
        obtain ⟨k, b, rfl, hkl, rfl, Hb, HDk⟩ := hrel
        by_cases hk : k < acc.length
        · have hkI : (k : Int) < (acc.length : Int) := by omega
          have htn := take_snoc acc k hk
          cases b with
          | true =>
            go_wp2_with (fail)
            go_quiet (fail)
            go_wp2_with (fail)
            go_roundw
            case rel => exact ⟨k + 1, true, by go_num, by omega, rfl, ⟨by rw [htn]; have := Hb.out.symm; simp only [decide_eq_true_eq] at this; simp [this]⟩, ⟨HDk.out.step _⟩⟩
            case measure => simp [intOf]; omega
          | false =>
            obtain ⟨a4, rfl, hcK⟩ := (Kd.at_string (Kd.C_below HR4.out HDk.out.below) (k : Int) (by omega) (by omega))
            rw [Int.toNat_natCast] at hcK
            have hcI := pw_cell_below HDk.out.below HCI.out
            have HTN := Aside0.mk htn
            clear htn
            obtain ⟨t, htx⟩ : ∃ t, rdOf ByteArray.empty acc (k : Int) = t := ⟨_, rfl⟩
            rw [htx] at hcK HTN
            clear htx
            by_cases hts : t = s
            · have hb1 : (t.toList == s.toList) = true := by rw [beq_iff_eq, hts]
              have HTS := Aside0.mk hts
              clear hts
              go_wp2_with (fail)
              go_quiet (fail)
              go_wp2_with (fail)
              go_roundw
              case rel => exact ⟨k + 1, true, by go_num, by omega, rfl, ⟨by rw [HTN.out, HTS.out]; simp⟩, ⟨HDk.out.step _⟩⟩
              case measure => simp [intOf]; omega
            · have hb1 : (t.toList == s.toList) = false := by rw [beq_eq_false_iff_ne]; exact fun h => hts (toList_inj h)
              have HTS := Aside0.mk hts
              clear hts
              go_wp2_with (fail)
              go_quiet (fail)
              go_wp2_with (fail)
              go_roundw
              case rel => exact ⟨k + 1, false, by go_num, by omega, rfl, ⟨by rw [HTN.out]; have h1 := Hb.out.symm; have h2 := HTS.out; simp only [decide_eq_false_iff_not] at h1; simp [h1, Ne.symm h2]⟩, ⟨HDk.out.step _⟩⟩
              case measure => simp [intOf]; omega
        · obtain rfl : k = acc.length := by omega
          have hbb := Hb.out
          rw [List.take_of_length_le (Nat.le_refl _)] at hbb
          replace Hb := Aside0.mk hbb
          clear hbb
          replace HBr := Aside0.mk (below_step HBr.out HDk.out.below)
          replace HO := Aside0.mk (Kd.R_below HO.out HDk.out.below)
          have hcI := pw_cell_below HDk.out.below HCI.out
          cases b with
          | true =>
            have hin : s ∈ acc := of_decide_eq_true Hb.out.symm
            have HIN := Aside0.mk hin
            clear hin
            go_wp2_with (fail)
            go_roundw
            case rel => exact ⟨i + 1, by go_num, by omega, ⟨by rw [HWN.out, more, if_pos HIN.out]; exact HO.out⟩, HBr⟩
            case measure => simp [intOf]; omega
          | false =>
            have hin : s ∉ acc := of_decide_eq_false Hb.out.symm
            have HIN := Aside0.mk hin
            clear hin
            go_wp2_with (at_builtin; refine appendOneS (w0 := w3) rfl (.tmp 48) (.tmp 53) rfl _ acc s rfl rfl HO.out HBr.out (by omega) ?_; intro v4 w5 ho2 hb2 hg2; have HO5 := Aside0.mk ho2; have HB5 := Aside0.mk hb2; clear ho2 hb2 hg2)
            go_roundw
            case rel => exact ⟨i + 1, by go_num, by omega, ⟨by rw [HWN.out, more, if_neg HIN.out]; exact HO5.out⟩, HB5⟩
            case measure => simp [intOf]; omega
    · obtain rfl : i = m.length := by omega
      have hT := HO.out
      rw [List.take_of_length_le (Nat.le_refl _)] at hT hal
      have hwm : ∀ x ∈ words [] m, x.size ≤ 1000 := fun x hx => (words_mem m [] x hx).elim (fun h0 => by cases h0) (HS2.out x)
      have HWM := Aside0.mk hwm
      clear HO hwm
      obtain ⟨A6, c6, hv6, lc6, hr6⟩ := Kd.R_reads hT
      have HR6 := Aside0.mk hr6
      replace hv6 := Aside0.mk hv6
      obtain rfl := hv6.out
      clear hv6 hr6 hT
      have hNr := HN.out
      go_wp2_with (fail)
      clear hNr
      go_loopw [11, 12] (fun v11 v12 wk => ∃ j : Nat, v12 = .int .i64 j ∧ j ≤ N ∧ Aside0 (Kd.R Kd.string 9 wk wr.heap.size (fun _ => True) v11 (rep m j)) ∧ Aside0 (Below wr.heap.size wr wk)) (fun _ v12 _ => N - (intOf v12).toNat)
      case atStart => exact ⟨0, by go_num, by omega, ⟨R_emptyS wr⟩, ⟨below_alloc (Below.refl _ _) _⟩⟩
      case round =>
        obtain ⟨j, rfl, hjN, HO, HBk⟩ := hrel
        by_cases hj : j < N
        · have hjI : (j : Int) < (N : Int) := by omega
          have hlr := Aside0.mk (rep_length m j)
          have hmul : j * m.length ≤ 3 * 20 := Nat.mul_le_mul (by omega) hml
          have HMUL := Aside0.mk hmul
          clear hmul
          go_wp2_with (at_builtin; refine appendRowS (w0 := _) rfl (.tmp 65) (.tmp 66) rfl _ (rep m j) m Am m.length cm rfl rfl HO.out (Kd.C_below (Kd.C_below HL.out HBr.out) HBk.out) HBk.out (by rw [hlr.out]; have := HMUL.out; omega) ?_; intro v5 w5 ho2 hb2; have HO5 := Aside0.mk ho2; have HB5 := Aside0.mk hb2; clear ho2 hb2)
          go_roundw
          case rel => exact ⟨j + 1, by go_num, by omega, HO5, HB5⟩
          case measure => simp [intOf]; omega
        · obtain rfl : j = N := by omega
          obtain ⟨A7, c7, hv7, lc7, hr7⟩ := Kd.R_reads HO.out
          have HR7 := Aside0.mk hr7
          replace hv7 := Aside0.mk hv7
          obtain rfl := hv7.out
          clear hv7 hr7 HO
          have hlr := rep_length m j
          have hmul : j * m.length ≤ 3 * 20 := Nat.mul_le_mul (by omega) hml
          obtain ⟨L, hL⟩ : ∃ L, j * m.length = L := ⟨_, rfl⟩
          rw [hL] at hlr hmul
          have hmI2 : (j : Int) * (m.length : Int) = (L : Int) := by rw [← hL]; simp
          have HD2 := HD.out
          rw [hL] at HD2
          clear hL HD
          have hrs : ∀ x ∈ rep m j, x.size ≤ 1000 := fun x hx => HS2.out x (rep_mem m j x hx)
          have hrl : (rep m j).length ≤ 60 := by omega
          have HRS := Aside0.mk hrs
          have HD := Aside0.mk HD2
          have HDL := Aside0.mk (dict_le _ hrs (by omega))
          clear hlr hrs HD2
          generalize rep m j = rr at *
          go_wp2_with (fail)
          refine (dictC A7 c7 rr _ HR7.out lc7 (by omega) HRS.out).mono ?_; rintro e w8 ⟨v, rfl, ho, hb⟩
          obtain ⟨Ad, cd, rfl, ld, hd⟩ := R_C ho
          have HB8 := Aside0.mk (below_step (below_step HBr.out HBk.out) hb)
          have HR8 := Aside0.mk (Kd.C_below (Kd.C_below HR6.out HBk.out) hb)
          clear ho hb hd
          go_wp2_with (fail)
          refine (eachC A6 c6 _ _ HR8.out lc6 (by omega) HWM.out).mono ?_; rintro e w9 ⟨v, rfl, ho, hb⟩
          obtain ⟨Ae, ce, rfl, le, he⟩ := R_C ho
          have HB9 := Aside0.mk (below_step HB8.out hb)
          clear ho hb he
          have hdl := HDL.out
          have hD := HD.out
          generalize (dict rr).length = dn at *
          generalize (each (words [] m)).length = en at *
          subst hD
          go_wp2_with (fail)
          go_ret
          exact ⟨rfl, below_step HB.out HB9.out⟩

set_option maxHeartbeats 8000000 in
set_option maxRecDepth 100000 in
theorem core_all (A : Option Addr) (c : Nat) (l f m : List ByteArray) (times : Int) (w : World) (hr : Kd.C Kd.string w A l.length l) (hc : l.length ≤ c) (hn : l.length < 10000000000000) (hf : fewL l = f) (hml : m.length ≤ 20) (hms : ∀ s ∈ m, s.size ≤ 60) (t0 : 0 ≤ times) (t1 : times ≤ 255)
    (N : Nat) (hN : 1 + times % 3 = (N : Int)) (hN1 : 1 ≤ N) (hN3 : N ≤ 3) (hD : (dict (rep m N)).length = 1 + (each (words [] m)).length + N * m.length) (hm : m = f.take 20) (hlong : ¬ (f.length : Int) > 20) (hbl : f = m) :
    Calls Try.prog 3 #[.slice A l.length c, .int .u8 times] w fun e w' => e = .returned (.bool true) ∧ Below w.heap.size w w' := by
  have HR := Aside0.mk hr
  have HS2 : Aside0 (∀ s ∈ m, s.size ≤ 1000) := ⟨fun s h => by have := hms s h; omega⟩
  have HF := Aside0.mk hf
  have HM := Aside0.mk hm
  have HD := Aside0.mk hD
  have HN := Aside0.mk hN
  have HB := Aside0.mk (Below.refl w.heap.size w)
  clear hr hms hf hD hN hm
  go_enter Try.func3, Try.ntmps3
  go_wp2_with (fail)
  (with_reducible refine (shownC _).mono ?_); rintro e w1 ⟨rfl, hb⟩
  replace HB := Aside0.mk (below_step HB.out hb); replace HR := Aside0.mk (Kd.C_below HR.out hb); clear hb
  go_wp2_with (fail)
  refine (fewC A c l _ HR.out hc hn).mono ?_; rintro e w3 ⟨v, rfl, ho, hb⟩
  rw [HF.out] at ho
  obtain ⟨Am, cm, rfl, lm, hl⟩ := R_CS ho
  replace HB := Aside0.mk (below_step HB.out hb)
  subst hbl
  have HL := Aside0.mk hl
  clear hb ho hl HR HF hn HM

  go_wp2_with (fail)
  go_loopw [6, 7] (fun v6 v7 wr => ∃ i : Nat, v7 = .int .i64 i ∧ i ≤ f.length ∧ Aside0 (Kd.R Kd.string 9 wr w3.heap.size (fun _ => True) v6 (words [] (f.take i))) ∧ Aside0 (Below w3.heap.size w3 wr)) (fun _ v7 _ => f.length - (intOf v7).toNat)
  case atStart => exact ⟨0, by go_num, by omega, ⟨R_emptyS w3⟩, ⟨below_alloc (Below.refl _ _) _⟩⟩
  case round =>
    obtain ⟨i, rfl, hil, HO, HBr⟩ := hrel
    have hal := words_length (f.take i) []
    have htk : (f.take i).length = i := by rw [List.length_take]; omega
    rw [htk, List.length_nil, Nat.zero_add] at hal
    clear htk
    by_cases hi : i < f.length
    · have hwn := words_snoc (f.take i) (rdOf ByteArray.empty f (i : Int)) []
      rw [← take_snoc f i hi] at hwn
      have HWN := Aside0.mk hwn
      clear hwn
      obtain ⟨am, rfl, hcI⟩ := (Kd.at_string (Kd.C_below HL.out HBr.out) (i : Int) (by omega) (by omega))
      rw [Int.toNat_natCast] at hcI
      obtain ⟨s, hsx⟩ : ∃ s, rdOf ByteArray.empty f (i : Int) = s := ⟨_, rfl⟩
      rw [hsx] at hcI HWN
      have HSX := Aside0.mk hsx
      clear hsx
      generalize words [] (f.take i) = acc at HO hal HWN
      obtain ⟨A4, c4, hv4, lc4, hr4⟩ := Kd.R_reads HO.out
      have HR4 := Aside0.mk hr4
      replace hv4 := Aside0.mk hv4
      obtain rfl := hv4.out
      clear hv4 hr4
      have hiI : (i : Int) < (f.length : Int) := by omega
      have HCI := Aside0.mk hcI
      clear hcI
      go_wp2_with (fail)
      go_loopw [8, 9] (fun v8 v9 wk => ∃ (k : Nat) (b : Bool), v9 = .int .i64 k ∧ k ≤ acc.length ∧ v8 = .bool b ∧ Aside0 (b = decide (s ∈ acc.take k)) ∧ Aside0 (Drawn0 wr wk)) (fun _ v9 _ => acc.length - (intOf v9).toNat)
      case atStart => exact ⟨0, false, by go_num, by omega, rfl, ⟨by simp⟩, ⟨Drawn0.refl _⟩⟩
      case round =>
        obtain ⟨k, b, rfl, hkl, rfl, Hb, HDk⟩ := hrel
        by_cases hk : k < acc.length
        · have hkI : (k : Int) < (acc.length : Int) := by omega
          have htn := take_snoc acc k hk
          cases b with
          | true =>
            go_wp2_with (fail)
            go_quiet (fail)
            go_wp2_with (fail)
            go_roundw
            case rel => exact ⟨k + 1, true, by go_num, by omega, rfl, ⟨by rw [htn]; have := Hb.out.symm; simp only [decide_eq_true_eq] at this; simp [this]⟩, ⟨HDk.out.step _⟩⟩
            case measure => simp [intOf]; omega
          | false =>
            obtain ⟨a4, rfl, hcK⟩ := (Kd.at_string (Kd.C_below HR4.out HDk.out.below) (k : Int) (by omega) (by omega))
            rw [Int.toNat_natCast] at hcK
            have hcI := pw_cell_below HDk.out.below HCI.out
            have HTN := Aside0.mk htn
            clear htn
            obtain ⟨t, htx⟩ : ∃ t, rdOf ByteArray.empty acc (k : Int) = t := ⟨_, rfl⟩
            rw [htx] at hcK HTN
            clear htx
            by_cases hts : t = s
            · have hb1 : (t.toList == s.toList) = true := by rw [beq_iff_eq, hts]
              have HTS := Aside0.mk hts
              clear hts
              go_wp2_with (fail)
              go_quiet (fail)
              go_wp2_with (fail)
              go_roundw
              case rel => exact ⟨k + 1, true, by go_num, by omega, rfl, ⟨by rw [HTN.out, HTS.out]; simp⟩, ⟨HDk.out.step _⟩⟩
              case measure => simp [intOf]; omega
            · have hb1 : (t.toList == s.toList) = false := by rw [beq_eq_false_iff_ne]; exact fun h => hts (toList_inj h)
              have HTS := Aside0.mk hts
              clear hts
              go_wp2_with (fail)
              go_quiet (fail)
              go_wp2_with (fail)
              go_roundw
              case rel => exact ⟨k + 1, false, by go_num, by omega, rfl, ⟨by rw [HTN.out]; have h1 := Hb.out.symm; have h2 := HTS.out; simp only [decide_eq_false_iff_not] at h1; simp [h1, Ne.symm h2]⟩, ⟨HDk.out.step _⟩⟩
              case measure => simp [intOf]; omega
        · obtain rfl : k = acc.length := by omega
          have hbb := Hb.out
          rw [List.take_of_length_le (Nat.le_refl _)] at hbb
          replace Hb := Aside0.mk hbb
          clear hbb
          replace HBr := Aside0.mk (below_step HBr.out HDk.out.below)
          replace HO := Aside0.mk (Kd.R_below HO.out HDk.out.below)
          have hcI := pw_cell_below HDk.out.below HCI.out
          cases b with
          | true =>
            have hin : s ∈ acc := of_decide_eq_true Hb.out.symm
            have HIN := Aside0.mk hin
            clear hin
            go_wp2_with (fail)
            go_roundw
            case rel => exact ⟨i + 1, by go_num, by omega, ⟨by rw [HWN.out, more, if_pos HIN.out]; exact HO.out⟩, HBr⟩
            case measure => simp [intOf]; omega
          | false =>
            have hin : s ∉ acc := of_decide_eq_false Hb.out.symm
            have HIN := Aside0.mk hin
            clear hin
            go_wp2_with (at_builtin; refine appendOneS (w0 := w3) rfl (.tmp 48) (.tmp 53) rfl _ acc s rfl rfl HO.out HBr.out (by omega) ?_; intro v4 w5 ho2 hb2 hg2; have HO5 := Aside0.mk ho2; have HB5 := Aside0.mk hb2; clear ho2 hb2 hg2)
            go_roundw
            case rel => exact ⟨i + 1, by go_num, by omega, ⟨by rw [HWN.out, more, if_neg HIN.out]; exact HO5.out⟩, HB5⟩
            case measure => simp [intOf]; omega
    · obtain rfl : i = f.length := by omega
      have hT := HO.out
      rw [List.take_of_length_le (Nat.le_refl _)] at hT hal
      have hwm : ∀ x ∈ words [] f, x.size ≤ 1000 := fun x hx => (words_mem f [] x hx).elim (fun h0 => by cases h0) (HS2.out x)
      have HWM := Aside0.mk hwm
      clear HO hwm
      obtain ⟨A6, c6, hv6, lc6, hr6⟩ := Kd.R_reads hT
      have HR6 := Aside0.mk hr6
      replace hv6 := Aside0.mk hv6
      obtain rfl := hv6.out
      clear hv6 hr6 hT
      have hNr := HN.out
      go_wp2_with (fail)
      clear hNr
      go_loopw [11, 12] (fun v11 v12 wk => ∃ j : Nat, v12 = .int .i64 j ∧ j ≤ N ∧ Aside0 (Kd.R Kd.string 9 wk wr.heap.size (fun _ => True) v11 (rep f j)) ∧ Aside0 (Below wr.heap.size wr wk)) (fun _ v12 _ => N - (intOf v12).toNat)
      case atStart => exact ⟨0, by go_num, by omega, ⟨R_emptyS wr⟩, ⟨below_alloc (Below.refl _ _) _⟩⟩
      case round =>
        obtain ⟨j, rfl, hjN, HO, HBk⟩ := hrel
        by_cases hj : j < N
        · have hjI : (j : Int) < (N : Int) := by omega
          have hlr := Aside0.mk (rep_length f j)
          have hmul : j * f.length ≤ 3 * 20 := Nat.mul_le_mul (by omega) hml
          have HMUL := Aside0.mk hmul
          clear hmul
          go_wp2_with (at_builtin; refine appendRowS (w0 := _) rfl (.tmp 65) (.tmp 66) rfl _ (rep f j) f Am f.length cm rfl rfl HO.out (Kd.C_below (Kd.C_below HL.out HBr.out) HBk.out) HBk.out (by rw [hlr.out]; have := HMUL.out; omega) ?_; intro v5 w5 ho2 hb2; have HO5 := Aside0.mk ho2; have HB5 := Aside0.mk hb2; clear ho2 hb2)
          go_roundw
          case rel => exact ⟨j + 1, by go_num, by omega, HO5, HB5⟩
          case measure => simp [intOf]; omega
        · obtain rfl : j = N := by omega
          obtain ⟨A7, c7, hv7, lc7, hr7⟩ := Kd.R_reads HO.out
          have HR7 := Aside0.mk hr7
          replace hv7 := Aside0.mk hv7
          obtain rfl := hv7.out
          clear hv7 hr7 HO
          have hlr := rep_length f j
          have hmul : j * f.length ≤ 3 * 20 := Nat.mul_le_mul (by omega) hml
          obtain ⟨L, hL⟩ : ∃ L, j * f.length = L := ⟨_, rfl⟩
          rw [hL] at hlr hmul
          have hmI2 : (j : Int) * (f.length : Int) = (L : Int) := by rw [← hL]; simp
          have HD2 := HD.out
          rw [hL] at HD2
          clear hL HD
          have hrs : ∀ x ∈ rep f j, x.size ≤ 1000 := fun x hx => HS2.out x (rep_mem f j x hx)
          have hrl : (rep f j).length ≤ 60 := by omega
          have HRS := Aside0.mk hrs
          have HD := Aside0.mk HD2
          have HDL := Aside0.mk (dict_le _ hrs (by omega))
          clear hlr hrs HD2
          generalize rep f j = rr at *
          go_wp2_with (fail)
          refine (dictC A7 c7 rr _ HR7.out lc7 (by omega) HRS.out).mono ?_; rintro e w8 ⟨v, rfl, ho, hb⟩
          obtain ⟨Ad, cd, rfl, ld, hd⟩ := R_C ho
          have HB8 := Aside0.mk (below_step (below_step HBr.out HBk.out) hb)
          have HR8 := Aside0.mk (Kd.C_below (Kd.C_below HR6.out HBk.out) hb)
          clear ho hb hd
          go_wp2_with (fail)
          refine (eachC A6 c6 _ _ HR8.out lc6 (by omega) HWM.out).mono ?_; rintro e w9 ⟨v, rfl, ho, hb⟩
          obtain ⟨Ae, ce, rfl, le, he⟩ := R_C ho
          have HB9 := Aside0.mk (below_step HB8.out hb)
          clear ho hb he
          have hdl := HDL.out
          have hD := HD.out
          generalize (dict rr).length = dn at *
          generalize (each (words [] f)).length = en at *
          subst hD
          go_wp2_with (fail)
          go_ret
          exact ⟨rfl, below_step HB.out HB9.out⟩


theorem walk (A : Option Addr) (c : Nat) (l : List ByteArray) (times : Int) (w : World) (hr : Kd.C Kd.string w A l.length l) (hc : l.length ≤ c) (hn : l.length * 16 ≤ 140737488351232) (ht : (Lit.int .u8 times).wf = true) :
    Calls Try.prog 3 #[.slice A l.length c, .int .u8 times] w fun e w' => e = .returned (.bool true) ∧ Below w.heap.size w w' := by
  have hu := wf_u8 ht
  have hs := fewL_size l
  obtain ⟨f, hf⟩ : ∃ f, fewL l = f := ⟨_, rfl⟩
  rw [hf] at hs
  obtain ⟨N, hN⟩ : ∃ N : Nat, 1 + times % 3 = (N : Int) := ⟨(1 + times % 3).toNat, by omega⟩
  have hN1 : 1 ≤ N := by omega
  have hN3 : N ≤ 3 := by omega
  have hml : (f.take 20).length ≤ 20 := by rw [List.length_take]; omega
  have hD : (dict (rep (f.take 20) N)).length = 1 + (each (words [] (f.take 20))).length + N * (f.take 20).length := by
    obtain ⟨n, rfl⟩ : ∃ n, N = n + 1 := ⟨N - 1, by omega⟩
    exact dict_rep _ n hml
  have hms : ∀ s ∈ f.take 20, s.size ≤ 60 := fun s h => hs s (List.mem_of_mem_take h)
  by_cases h : (f.length : Int) > 20
  · exact core_long A c l f _ times w hr hc (by omega) hf hml hms hu.1 hu.2 N hN hN1 hN3 hD rfl h (by rw [List.length_take]; omega)
  · have e : f = f.take 20 := (List.take_of_length_le (by omega)).symm
    exact core_all A c l f _ times w hr hc (by omega) hf hml hms hu.1 hu.2 N hN hN1 hN3 hD rfl h e

end Go.Proofs.Ytnecipeckamiiaa.WTextsAgain
