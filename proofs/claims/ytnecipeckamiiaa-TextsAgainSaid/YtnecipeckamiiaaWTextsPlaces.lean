/- The walk of the law TextsPlaces. -/
import Derived.Test.YtnecipeckamiiaaCFewT
namespace Go.Proofs.Ytnecipeckamiiaa.WTextsPlaces
open Go.RowKit Go.Proofs.YtnecipeckamiiaaW.PrintWords Go.Proofs.YtnecipeckamiiaaW.PrintLast Go.Proofs.YtnecipeckamiiaaW.PrintMore Go.Proofs.Ytnecipeckamiiaa.Num Go.Proofs.Ytnecipeckamiiaa.Bits Go.Proofs.Ytnecipeckamiiaa.VarM Go.Proofs.Ytnecipeckamiiaa.TextsT Go.Proofs.Ytnecipeckamiiaa.Hold Go.Proofs.Ytnecipeckamiiaa.HoldS Go.Proofs.Ytnecipeckamiiaa.CEach Go.Proofs.Ytnecipeckamiiaa.KDict Go.Proofs.Ytnecipeckamiiaa.CDict Go.Proofs.Ytnecipeckamiiaa.CPutT Go.Proofs.Ytnecipeckamiiaa.CFewT Go.Proofs.Ytnecipeckamiiaa.CPlace
set_option linter.unusedVariables false
set_option linter.unusedSimpArgs false
attribute [local go_sem] max2_int min2_int max_two min_two max_three min_three max_four min_four

theorem idxOf_prefix (acc W : List ByteArray) (s : ByteArray) (h : more acc s <+: W) : W.idxOf s = acc.idxOf s := by
  obtain ⟨r, rfl⟩ := h
  unfold more
  by_cases hs : s ∈ acc
  · rw [if_pos hs, List.idxOf_append, if_pos hs]
  · rw [if_neg hs, List.append_assoc, List.idxOf_append, if_neg hs, List.idxOf_eq_length hs]
    simp
theorem wheres_map (W : List ByteArray) (hW : W.length < 128) (l : List ByteArray) : ∀ acc, words acc l <+: W → wheres acc l = l.map (fun s => (W.idxOf s : Int)) := by
  induction l with
  | nil => intro acc _; rfl
  | cons s l ih =>
    intro acc h
    have h1 : more acc s <+: W := (words_prefix l (more acc s)).trans h
    have h2 := idxOf_prefix acc W s h1
    have h3 : W.idxOf s ≤ W.length := List.idxOf_le_length
    rw [wheres, ih _ h, List.map_cons, ← h2]
    by_cases h4 : W.idxOf s < 128
    · rw [pv_small h4]; rfl
    · omega
/-- Where the texts stand, and how many words there are ahead of number i. -/
def P (m : List ByteArray) (i : Nat) : Nat := (words [] m).idxOf (rdOf ByteArray.empty m (i : Int))
def N (m : List ByteArray) (i : Nat) : Nat := (words [] (m.take i)).length
theorem N_le (m : List ByteArray) (i : Nat) : N m i ≤ i := by
  have := words_length (m.take i) []
  rw [List.length_take, List.length_nil] at this
  unfold N
  omega
theorem words_split (a : List ByteArray) : ∀ (b acc : List ByteArray), words acc (a ++ b) = words (words acc a) b := by
  induction a with
  | nil => intro b acc; rfl
  | cons s a ih => intro b acc; exact ih b _
theorem P_at (m : List ByteArray) (i : Nat) (h : i < m.length) : P m i = (words [] (m.take i)).idxOf (rdOf ByteArray.empty m (i : Int)) ∧ more (words [] (m.take i)) (rdOf ByteArray.empty m (i : Int)) <+: words [] m := by
  have h2 : more (words [] (m.take i)) (rdOf ByteArray.empty m (i : Int)) <+: words [] m := by
    rw [← words_snoc, ← take_snoc m i h]
    conv => rhs; rw [← List.take_append_drop (i + 1) m]
    rw [words_split]
    exact words_prefix _ _
  exact ⟨idxOf_prefix _ _ _ h2, h2⟩
theorem P_le (m : List ByteArray) (i : Nat) (h : i < m.length) : P m i ≤ N m i := by
  rw [(P_at m i h).1]
  exact List.idxOf_le_length
theorem N_succ (m : List ByteArray) (i : Nat) (h : i < m.length) : N m (i + 1) = if P m i < N m i then N m i else N m i + 1 := by
  unfold N
  rw [take_snoc m i h, words_snoc, (P_at m i h).1, more]
  by_cases hs : rdOf ByteArray.empty m (i : Int) ∈ words [] (m.take i)
  · rw [if_pos hs, if_pos (List.idxOf_lt_length_iff.2 hs)]
  · rw [if_neg hs, List.idxOf_eq_length hs, if_neg (by omega)]
    simp
theorem P_eq (m : List ByteArray) (i k : Nat) (h : i < m.length) (hk : k < m.length) : P m k = P m i ↔ rdOf ByteArray.empty m (k : Int) = rdOf ByteArray.empty m (i : Int) := by
  refine ⟨fun e => ?_, fun e => by unfold P; rw [e]⟩
  have hm : ∀ j, j < m.length → rdOf ByteArray.empty m (j : Int) ∈ words [] m := fun j hj => by
    obtain ⟨r, hr⟩ := (P_at m j hj).2
    rw [← hr]
    exact List.mem_append_left _ more_sub
  unfold P at e
  have h1 := List.getElem_idxOf (List.idxOf_lt_length_iff.2 (hm k hk))
  have h2 := List.getElem_idxOf (List.idxOf_lt_length_iff.2 (hm i h))
  rw [← h1, ← h2]
  congr 1
theorem text_eq (s t : ByteArray) : (s == t) = (s.toList == t.toList) := by
  rw [Bool.eq_iff_iff, beq_iff_eq, beq_iff_eq]
  exact ⟨fun h => by rw [h], toList_inj⟩

set_option maxHeartbeats 8000000 in
set_option maxRecDepth 100000 in
theorem core (A : Option Addr) (c : Nat) (l m : List ByteArray) (w : World) (hr : Kd.C Kd.string w A l.length l) (hc : l.length ≤ c) (hn : l.length < 10000000000000) (hm : fewL l = m) (hml : m.length ≤ 60) (hms : ∀ s ∈ m, s.size ≤ 60)
    (D1 PL : List Int) (hD : dict m = D1 ++ PL) (hPL : PL.length = m.length) (hD1 : 1 ≤ D1.length) (hD0 : (D1 ++ PL).getD 0 0 = (N m m.length : Int)) (hPi : ∀ i, i < m.length → PL.getD i 0 = (P m i : Int)) :
    Calls Try.prog 5 #[.slice A l.length c] w fun e w' => e = .returned (.bool true) ∧ Below w.heap.size w w' := by
  have HR := Aside0.mk hr
  have HS2 : Aside0 (∀ s ∈ m, s.size ≤ 1000) := ⟨fun s h => by have := hms s h; omega⟩
  have HM := Aside0.mk hm
  have HD := Aside0.mk hD
  have HPL := Aside0.mk hPL
  have HD0 := Aside0.mk hD0
  have HPI := Aside0.mk hPi
  have HB := Aside0.mk (Below.refl w.heap.size w)
  clear hr hms hm hD hPL hD0 hPi
  go_enter Try.func5, Try.ntmps5
  go_wp2_with (fail)
  (with_reducible refine (shownC _).mono ?_); rintro e w1 ⟨rfl, hb⟩
  replace HB := Aside0.mk (below_step HB.out hb); replace HR := Aside0.mk (Kd.C_below HR.out hb); clear hb
  go_wp2_with (fail)
  refine (fewC A c l _ HR.out hc hn).mono ?_; rintro e w2 ⟨v, rfl, ho, hb⟩
  rw [HM.out] at ho
  obtain ⟨Am, cm, rfl, lm, hl⟩ := R_CS ho
  replace HB := Aside0.mk (below_step HB.out hb)
  have HL := Aside0.mk hl
  clear hb ho hl HR HM hn
  go_wp2_with (fail)
  refine (dictC Am cm m _ HL.out lm (by omega) HS2.out).mono ?_; rintro e w3 ⟨v, rfl, ho, hb⟩
  rw [HD.out] at ho
  obtain ⟨Ad, cd, rfl, ld, hd⟩ := R_C ho
  replace HB := Aside0.mk (below_step HB.out hb)
  replace HL := Aside0.mk (Kd.C_below HL.out hb)
  have HDR := Aside0.mk hd
  clear hb ho hd
  have hlen : (D1 ++ PL).length = D1.length + m.length := by rw [List.length_append, HPL.out]
  obtain ⟨A2, hcut, h2, l2⟩ := cutFrom (P := Try.prog) 25 5 Try.underlying25 CEach.info_u8 .u8 Ad cd (D1 ++ PL) ((D1.length : Int)) (by omega) (by omega) ld
  have h3 := h2 _ HDR.out
  rw [show (D1 ++ PL).drop ((D1.length : Int)).toNat = PL from by rw [Int.toNat_natCast]; exact List.drop_left] at h3 hcut l2
  rw [HPL.out] at h3 hcut l2
  have HPR := Aside0.mk h3
  have hlt : decide (((D1 ++ PL).length : Int) < 1 + (m.length : Int)) = false := decide_eq_false (by omega)
  have hsub : ((D1 ++ PL).length : Int) - (m.length : Int) = (D1.length : Int) := by omega
  have hw1 : (1 : Int) + (m.length : Int) = 1 + (m.length : Int) := rfl
  obtain ⟨n, hnD⟩ : ∃ n, (D1 ++ PL).length = n := ⟨_, rfl⟩
  rw [hnD] at hcut hlt hsub ⊢
  have hn1 : n ≤ 10000000 := by
    have := dict_le m HS2.out (by omega)
    rw [HD.out, hnD] at this
    omega
  have hn0 : 1 ≤ n := by omega
  clear h2 h3 hlen hw1
  have HN := Aside0.mk hnD
  clear hnD
  go_wp2_with (fail)
  clear hcut hlt hsub
  go_loopw [6, 7] (fun v6 v7 wr => ∃ i : Nat, v7 = .int .i64 i ∧ i ≤ m.length ∧ v6 = .int .i64 ((N m i : Int) - 1) ∧ Aside0 (Drawn0 w3 wr)) (fun _ v7 _ => m.length - (intOf v7).toNat)
  case atStart => exact ⟨0, by go_num, by omega, by simp [N, words], ⟨Drawn0.refl _⟩⟩
  case round =>
    obtain ⟨i, rfl, hil, rfl, HBr⟩ := hrel
    by_cases hi : i < m.length
    · have hcI := (Kd.at_string (Kd.C_below HL.out HBr.out.below) (i : Int) (by omega) (by omega))
      obtain ⟨am, rfl, hcI⟩ := hcI
      obtain ⟨ap, rfl, hcells⟩ := C_cells (Kd.C_below HPR.out HBr.out.below) (by omega)
      have hpI := hcells i hi
      rw [HPI.out i hi] at hpI
      rw [Int.toNat_natCast] at hcI
      have hPN := P_le m i hi
      have hNi := N_le m i
      have hNs := Aside0.mk (N_succ m i hi)
      have HEQ := Aside0.mk (fun k hk => P_eq m i k hi hk)
      obtain ⟨x, hx0⟩ : ∃ x, P m i = x := ⟨_, rfl⟩
      rw [hx0] at hpI hPN hNs HEQ
      have HX0 := Aside0.mk hx0
      clear hx0
      generalize N m i = nn at *
      have hgt1 : decide ((nn : Int) - 1 + 1 < (x : Int)) = false := decide_eq_false (by omega)
      have hgt2 : decide (nn < x) = false := decide_eq_false (by omega)
      have hiI : (i : Int) < (m.length : Int) := by omega
      clear hcells
      by_cases hx : x < nn
      · have hmx : ¬ ((nn : Int) - 1 < (x : Int)) := by omega
        go_wp2_with (fail)
        clear hmx hgt1 hgt2
        go_loopw [8] (fun v8 wk => ∃ k : Nat, v8 = .int .i64 k ∧ k ≤ i ∧ Aside0 (Drawn0 w3 wk)) (fun v8 _ => i - (intOf v8).toNat)
        case atStart => exact ⟨0, by go_num, by omega, HBr⟩
        case round =>
          obtain ⟨k, rfl, hki, HBk⟩ := hrel
          clear hcI hpI
          by_cases hk : k < i
          · obtain ⟨a1, e1, hcI⟩ := (Kd.at_string (Kd.C_below HL.out HBk.out.below) (i : Int) (by omega) (by omega))
            cases e1
            obtain ⟨a1, e1, hcK⟩ := (Kd.at_string (Kd.C_below HL.out HBk.out.below) (k : Int) (by omega) (by omega))
            cases e1
            obtain ⟨a1, e1, hcells⟩ := C_cells (Kd.C_below HPR.out HBk.out.below) (by omega)
            cases e1
            have hpI := hcells i hi
            have hpK := hcells k (by omega)
            rw [HPI.out i hi, HX0.out] at hpI
            rw [HPI.out k (by omega)] at hpK
            rw [Int.toNat_natCast] at hcI hcK
            clear hcells
            have hpe := HEQ.out k (by omega)
            generalize rdOf ByteArray.empty m (i : Int) = si at *
            generalize rdOf ByteArray.empty m (k : Int) = sk at *
            generalize P m k = xk at *
            have hkI : (k : Int) < (i : Int) := by omega
            have hkM : (k : Int) < (m.length : Int) := by omega
            by_cases hx2 : xk = x
            · have hb1 : (sk.toList == si.toList) = true := by rw [beq_iff_eq, hpe.1 hx2]
              have hb2 : ((xk : Int) == (x : Int)) = true := by rw [beq_iff_eq, hx2]
              have hb3 : (xk == x) = true := by rw [beq_iff_eq, hx2]
              clear hpe hx2
              go_wp2_with (fail)
              go_quiet (fail)
              go_wp2_with (fail)
              go_roundw
              case rel => exact ⟨k + 1, by go_num, by omega, ⟨HBk.out.step _⟩⟩
              case measure => simp [intOf]; omega
            · have hb1 : (sk.toList == si.toList) = false := by rw [beq_eq_false_iff_ne]; exact fun h => hx2 (hpe.2 (toList_inj h))
              have hb2 : ((xk : Int) == (x : Int)) = false := by rw [beq_eq_false_iff_ne]; omega
              have hb3 : (xk == x) = false := by rw [beq_eq_false_iff_ne]; omega
              clear hpe hx2
              go_wp2_with (fail)
              go_quiet (fail)
              go_wp2_with (fail)
              go_roundw
              case rel => exact ⟨k + 1, by go_num, by omega, ⟨HBk.out.step _⟩⟩
              case measure => simp [intOf]; omega
          · obtain rfl : k = i := by omega
            go_wp2_with (fail)
            go_roundw
            case rel => exact ⟨k + 1, by go_num, by omega, by rw [hNs.out, if_pos hx], HBk⟩
            case measure => simp [intOf]; omega
      · obtain rfl : x = nn := by omega
        have hmx : (x : Int) - 1 < (x : Int) := by omega
        go_wp2_with (fail)
        clear hmx hgt1 hgt2
        go_loopw [8] (fun v8 wk => ∃ k : Nat, v8 = .int .i64 k ∧ k ≤ i ∧ Aside0 (Drawn0 w3 wk)) (fun v8 _ => i - (intOf v8).toNat)
        case atStart => exact ⟨0, by go_num, by omega, HBr⟩
        case round =>
          obtain ⟨k, rfl, hki, HBk⟩ := hrel
          clear hcI hpI
          by_cases hk : k < i
          · obtain ⟨a1, e1, hcI⟩ := (Kd.at_string (Kd.C_below HL.out HBk.out.below) (i : Int) (by omega) (by omega))
            cases e1
            obtain ⟨a1, e1, hcK⟩ := (Kd.at_string (Kd.C_below HL.out HBk.out.below) (k : Int) (by omega) (by omega))
            cases e1
            obtain ⟨a1, e1, hcells⟩ := C_cells (Kd.C_below HPR.out HBk.out.below) (by omega)
            cases e1
            have hpI := hcells i hi
            have hpK := hcells k (by omega)
            rw [HPI.out i hi, HX0.out] at hpI
            rw [HPI.out k (by omega)] at hpK
            rw [Int.toNat_natCast] at hcI hcK
            clear hcells
            have hpe := HEQ.out k (by omega)
            generalize rdOf ByteArray.empty m (i : Int) = si at *
            generalize rdOf ByteArray.empty m (k : Int) = sk at *
            generalize P m k = xk at *
            have hkI : (k : Int) < (i : Int) := by omega
            have hkM : (k : Int) < (m.length : Int) := by omega
            by_cases hx2 : xk = x
            · have hb1 : (sk.toList == si.toList) = true := by rw [beq_iff_eq, hpe.1 hx2]
              have hb2 : ((xk : Int) == (x : Int)) = true := by rw [beq_iff_eq, hx2]
              have hb3 : (xk == x) = true := by rw [beq_iff_eq, hx2]
              clear hpe hx2
              go_wp2_with (fail)
              go_quiet (fail)
              go_wp2_with (fail)
              go_roundw
              case rel => exact ⟨k + 1, by go_num, by omega, ⟨HBk.out.step _⟩⟩
              case measure => simp [intOf]; omega
            · have hb1 : (sk.toList == si.toList) = false := by rw [beq_eq_false_iff_ne]; exact fun h => hx2 (hpe.2 (toList_inj h))
              have hb2 : ((xk : Int) == (x : Int)) = false := by rw [beq_eq_false_iff_ne]; omega
              have hb3 : (xk == x) = false := by rw [beq_eq_false_iff_ne]; omega
              clear hpe hx2
              go_wp2_with (fail)
              go_quiet (fail)
              go_wp2_with (fail)
              go_roundw
              case rel => exact ⟨k + 1, by go_num, by omega, ⟨HBk.out.step _⟩⟩
              case measure => simp [intOf]; omega
          · obtain rfl : k = i := by omega
            go_wp2_with (fail)
            go_roundw
            case rel => exact ⟨k + 1, by go_num, by omega, by rw [hNs.out, if_neg (by omega)]; go_num, HBk⟩
            case measure => simp [intOf]; omega
    · obtain rfl : i = m.length := by omega
      obtain ⟨ad, rfl, hcells⟩ := C_cells (Kd.C_below HDR.out HBr.out.below) (by have := HN.out; omega)
      have hc0 := cells0 hcells (by have := HN.out; omega)
      rw [HD0.out] at hc0
      have hn0I : (0 : Int) < (n : Int) := by omega
      generalize N m m.length = nn at *
      clear hcells
      go_wp2_with (fail)
      go_ret
      exact ⟨rfl, below_step HB.out HBr.out.below⟩

theorem walk (A : Option Addr) (c : Nat) (l : List ByteArray) (w : World) (hr : Kd.C Kd.string w A l.length l) (hc : l.length ≤ c) (hn : l.length * 16 ≤ 140737488351232) :
    Calls Try.prog 5 #[.slice A l.length c] w fun e w' => e = .returned (.bool true) ∧ Below w.heap.size w w' := by
  have h6 := fewL_length l
  have hs := fewL_size l
  generalize hm : fewL l = m at h6 hs
  have hw := words_length m []
  rw [List.length_nil, Nat.zero_add] at hw
  have hmap := wheres_map (words [] m) (by omega) m [] (List.prefix_refl _)
  have hp := pv_pos (words [] m).length
  refine core A c l m w hr hc (by omega) hm h6 hs (pv (words [] m).length ++ each (words [] m)) (wheres [] m) (by rw [dict, List.append_assoc]) (by rw [hmap, List.length_map]) (by rw [List.length_append]; omega) ?_ (fun i hi => ?_)
  · unfold N
    rw [List.take_of_length_le (Nat.le_refl _), pv_small (by omega)]
    rfl
  · rw [hmap]
    simp [P, rdOf, List.getD_eq_getElem?_getD, hi]

end Go.Proofs.Ytnecipeckamiiaa.WTextsPlaces
