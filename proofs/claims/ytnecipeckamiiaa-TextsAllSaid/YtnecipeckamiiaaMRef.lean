/-
  Contracts for the law Ref: my texts, one behind the other (merge.py).
-/
import Derived.Test.YtnecipeckamiiaaMTake
import Derived.Test.YtnecipeckamiiaaRVar
/- RefTM: The texts reference's readings, one more at the end; plain mathematics. -/
namespace Go.Proofs.Ytnecipeckamiiaa.RefTM
open Go.RowKit Go.Proofs.YtnecipeckamiiaaW.PrintWords Go.Proofs.YtnecipeckamiiaaW.PrintMore Go.Proofs.Ytnecipeckamiiaa.Bits Go.Proofs.Ytnecipeckamiiaa.Num Go.Proofs.Ytnecipeckamiiaa.VarM Go.Proofs.Ytnecipeckamiiaa.TextsT

theorem eachR_snoc (n : Nat) : ∀ b : List Int, eachR b (n + 1) = (eachR b n).bind fun q => (textR q.2).map fun p => (q.1 ++ [p.1], p.2) := by
  induction n with
  | zero =>
    intro b
    simp only [eachR, Option.map_some, Option.bind_some, List.nil_append]
    cases textR b <;> rfl
  | succ n ih =>
    intro b
    rw [eachR]
    conv => rhs; rw [eachR]
    cases ht : textR b with
    | none => rfl
    | some p =>
      simp only [Option.bind_some]
      rw [ih]
      cases eachR p.2 n with
      | none => rfl
      | some q => simp only [Option.bind_some, Option.map_some]; cases textR q.2 <;> simp
theorem placesR_snoc (ws : List ByteArray) (n : Nat) : ∀ b : List Int, placesR ws b (n + 1) = (placesR ws b n).bind fun q => if (var q.2).2 = 0 ∨ (var q.2).1 ≥ ws.length then none else some (q.1 ++ [ws.getD (var q.2).1.toNat ByteArray.empty], q.2.drop (var q.2).2.toNat) := by
  induction n with
  | zero =>
    intro b
    rw [placesR, placesR]
    simp only [Option.bind_some, List.nil_append]
    split
    · rfl
    · simp [placesR]
  | succ n ih =>
    intro b
    rw [placesR]
    conv => rhs; rw [placesR]
    split
    · rfl
    · rw [ih]
      cases placesR ws (b.drop (var b).2.toNat) n with
      | none => rfl
      | some q =>
        simp only [Option.bind_some, Option.map_some]
        split <;> simp
theorem eachR_stop (b : List Int) (i n : Nat) (h : i ≤ n) (hn : eachR b i = none) : eachR b n = none := by
  induction n with
  | zero => obtain rfl : i = 0 := by omega
            exact hn
  | succ n ih =>
    by_cases e : i = n + 1
    · rw [← e]; exact hn
    · rw [eachR_snoc, ih (by omega)]; rfl
theorem placesR_stop (ws : List ByteArray) (b : List Int) (i n : Nat) (h : i ≤ n) (hn : placesR ws b i = none) : placesR ws b n = none := by
  induction n with
  | zero => obtain rfl : i = 0 := by omega
            exact hn
  | succ n ih =>
    by_cases e : i = n + 1
    · rw [← e]; exact hn
    · rw [placesR_snoc, ih (by omega)]; rfl
theorem textR_rest {b : List Int} {p : ByteArray × List Int} (hb : Bytes b) (h : textR b = some p) : Bytes p.2 ∧ p.2.length ≤ b.length := by
  unfold textR at h
  split at h
  · cases h
  · obtain rfl := Option.some.inj h
    exact ⟨hb.drop _, by simp only [List.length_drop]; omega⟩
theorem eachR_rest (n : Nat) : ∀ (b : List Int) (p), Bytes b → eachR b n = some p → Bytes p.2 ∧ p.2.length ≤ b.length := by
  induction n with
  | zero => intro b p hb h; rw [eachR] at h; obtain rfl := Option.some.inj h; exact ⟨hb, Nat.le_refl _⟩
  | succ n ih =>
    intro b p hb h
    rw [eachR] at h
    obtain ⟨t, ht, h⟩ := Option.bind_eq_some_iff.1 h
    obtain ⟨q, hq, rfl⟩ := Option.map_eq_some_iff.1 h
    have h1 := textR_rest hb ht
    have h2 := ih _ _ h1.1 hq
    exact ⟨h2.1, Nat.le_trans h2.2 h1.2⟩
theorem placesR_rest (ws : List ByteArray) (n : Nat) : ∀ (b : List Int) (p), Bytes b → placesR ws b n = some p → Bytes p.2 ∧ p.2.length ≤ b.length := by
  induction n with
  | zero => intro b p hb h; rw [placesR] at h; obtain rfl := Option.some.inj h; exact ⟨hb, Nat.le_refl _⟩
  | succ n ih =>
    intro b p hb h
    rw [placesR] at h
    split at h
    · cases h
    · obtain ⟨q, hq, rfl⟩ := Option.map_eq_some_iff.1 h
      have h2 := ih _ _ (hb.drop _) hq
      exact ⟨h2.1, Nat.le_trans h2.2 (by rw [List.length_drop]; omega)⟩
end Go.Proofs.Ytnecipeckamiiaa.RefTM

/- CRefT: The contract of the texts reference's each. -/
namespace Go.Proofs.Ytnecipeckamiiaa.CRefT
open Go.RowKit Go.Proofs.Ytnecipeckamiiaa.RVar Go.Proofs.YtnecipeckamiiaaW.PrintWords Go.Proofs.YtnecipeckamiiaaW.PrintLast Go.Proofs.YtnecipeckamiiaaW.PrintMore Go.Proofs.Ytnecipeckamiiaa.Num Go.Proofs.Ytnecipeckamiiaa.Bits Go.Proofs.Ytnecipeckamiiaa.VarM Go.Proofs.Ytnecipeckamiiaa.TextsT Go.Proofs.Ytnecipeckamiiaa.Hold Go.Proofs.Ytnecipeckamiiaa.HoldS Go.Proofs.Ytnecipeckamiiaa.KDict Go.Proofs.Ytnecipeckamiiaa.CFewT Go.Proofs.Ytnecipeckamiiaa.RefTM
set_option linter.unusedVariables false
set_option linter.unusedSimpArgs false
attribute [local go_sem] max2_int min2_int max_two min_two max_three min_three max_four min_four

/-- What each answers. -/
def EachPost (w : World) (M : Option (List ByteArray × List Int)) (e : Ending) (w' : World) : Prop :=
  match M with
  | none => e = .returned (.tuple #[.slice none 0 0, .slice none 0 0, .bool false]) ∧ Below w.heap.size w w'
  | some q => ∃ A1 c1 A2 c2, e = .returned (.tuple #[.slice A1 q.1.length c1, .slice A2 q.2.length c2, .bool true]) ∧ q.1.length ≤ c1 ∧ q.2.length ≤ c2 ∧ Kd.C Kd.string w' A1 q.1.length q.1 ∧ Kd.C (Kd.int .u8) w' A2 q.2.length q.2 ∧ Below w.heap.size w w'
theorem EachPost.none_ {w w' : World} {e : Ending} {M : Option (List ByteArray × List Int)} (hM : M = none) (he : e = .returned (.tuple #[.slice none 0 0, .slice none 0 0, .bool false])) (hb : Below w.heap.size w w') : EachPost w M e w' := by
  subst hM
  exact ⟨he, hb⟩

set_option maxHeartbeats 8000000 in
set_option maxRecDepth 100000 in
theorem eachC (A : Option Addr) (c : Nat) (b : List Int) (n : Nat) (w : World) (hr : Kd.C (Kd.int .u8) w A b.length b) (hc : b.length ≤ c) (hb : Bytes b) (hl : b.length < 1000000000) (hn : n ≤ 3000) :
    Calls Try.prog 27 #[.slice A b.length c, .int .i64 n] w (EachPost w (eachR b n)) := by
  have HR := Aside0.mk hr
  have HBY := Aside0.mk hb
  clear hr hb
  go_enter Try.func27, Try.ntmps27
  go_wp2_with (fail)
  go_loopw [0, 7, 8] (fun v0 v7 v8 wr => ∃ (i : Nat) (l : List ByteArray) (bi : List Int) (Ai : Option Addr) (ci : Nat), v8 = .int .i64 i ∧ i ≤ n ∧ v0 = .slice Ai bi.length ci ∧ bi.length ≤ ci ∧ Aside0 (eachR b i = some (l, bi)) ∧ Aside0 (Kd.C (Kd.int .u8) w Ai bi.length bi) ∧ Aside0 (Kd.R Kd.string 9 wr w.heap.size (fun _ => True) v7 l) ∧ Aside0 (Below w.heap.size w wr)) (fun _ _ v8 _ => n - (intOf v8).toNat)
  case atStart => exact ⟨0, [], b, A, c, by go_num, by omega, rfl, hc, ⟨by rw [eachR]⟩, HR, ⟨R_emptyS w⟩, ⟨below_alloc (Below.refl _ _) _⟩⟩
  case round =>
    obtain ⟨i, l, bi, Ai, ci, rfl, hin, rfl, hci, HE, HC, HO, HB⟩ := hrel
    by_cases hi : i < n
    · have hiI : (i : Int) < (n : Int) := by omega
      have hrest := eachR_rest i b _ HBY.out HE.out
      have hli := Aside0.mk (eachR_size i b _ HE.out).1
      have hbl : bi.length < 1000000000 := by have := hrest.2; (try simp only at this); omega
      have hbb : Bytes bi := hrest.1
      have HBB := Aside0.mk hbb
      have hsn := Aside0.mk (eachR_snoc i b)
      have hv := var_range hbb
      obtain ⟨u, hu⟩ : ∃ u, (var bi).1 = u := ⟨_, rfl⟩
      obtain ⟨m, hm⟩ : ∃ m : Nat, (var bi).2 = (m : Int) := Int.eq_ofNat_of_zero_le hv.2.2.1
      have HV := Aside0.mk (fun W h => refVar Ai ci bi W h hci hbb)
      have hT := Aside0.mk (show textR bi = _ from rfl)
      have hTR := hT.out
      unfold textR at hTR
      rw [hu, hm] at HV hv
      have hTX : textR bi = if (m : Int) = 0 ∨ u > 60 ∨ (bi.length : Int) - m < u then none else some (strOfNums ((bi.drop m).take u.toNat), bi.drop (m + u.toNat)) := by
        unfold textR
        rw [hu, hm, Int.toNat_natCast]
      have HTX := Aside0.mk hTX
      have hmb : (m : Int) ≤ (bi.length : Int) := hv.2.2.2.1
      have hu0 : 0 ≤ u := hv.1
      have hu1 : u ≤ 18446744073709551615 := hv.2.1
      clear hrest hbb hu hm hT hTR hTX hv HBY
      have hstop : textR bi = none → eachR b n = none := fun h => eachR_stop b (i + 1) n (by omega) (by rw [hsn.out, HE.out, Option.bind_some, h]; rfl)
      have HSTOP := Aside0.mk hstop
      clear hstop
      by_cases c0 : m = 0
      · subst c0
        have hnone := HSTOP.out (by rw [HTX.out, if_pos (.inl rfl)])
        have HNONE := Aside0.mk hnone
        clear hnone
        go_wp2_with (fail)
        refine (HV.out _ (Kd.C_below HC.out HB.out)).mono ?_; rintro e w1 ⟨rfl, hb⟩
        replace HB := Aside0.mk (below_step HB.out hb)
        clear hb
        go_wp2_with (fail)
        go_ret3
        exact EachPost.none_ HNONE.out rfl HB.out
      · have hm0 : ((m : Int) == 0) = false := beq_eq_false_iff_ne.mpr (by omega)
        have hm0n : (m == 0) = false := beq_eq_false_iff_ne.mpr c0
        by_cases c1 : u > 60
        · have hnone := HSTOP.out (by rw [HTX.out, if_pos (.inr (.inl c1))])
          have HNONE := Aside0.mk hnone
          have hg : decide ((60 : Int) < u) = true := decide_eq_true c1
          clear hnone c1 hu1
          go_wp2_with (fail)
          refine (HV.out _ (Kd.C_below HC.out HB.out)).mono ?_; rintro e w1 ⟨rfl, hb⟩
          replace HB := Aside0.mk (below_step HB.out hb)
          clear hb
          go_wp2_with (fail)
          go_ret3
          exact EachPost.none_ HNONE.out rfl HB.out
        · have hg : decide ((60 : Int) < u) = false := decide_eq_false c1
          obtain ⟨k, rfl⟩ := Int.eq_ofNat_of_zero_le hu0
          have hk60 : k ≤ 60 := by omega
          clear hu1 c1 hu0
          by_cases c2 : (bi.length : Int) - (m : Int) < (k : Int)
          · have hnone := HSTOP.out (by rw [HTX.out, if_pos (.inr (.inr c2))])
            have HNONE := Aside0.mk hnone
            have hg2 : decide ((bi.length : Int) - (m : Int) < (k : Int)) = true := decide_eq_true c2
            clear hnone c2
            go_wp2_with (fail)
            refine (HV.out _ (Kd.C_below HC.out HB.out)).mono ?_; rintro e w1 ⟨rfl, hb⟩
            replace HB := Aside0.mk (below_step HB.out hb)
            clear hb
            go_wp2_with (fail)
            go_ret3
            exact EachPost.none_ HNONE.out rfl HB.out
          · have hg2 : decide ((bi.length : Int) - (m : Int) < (k : Int)) = false := decide_eq_false c2
            have hsome : textR bi = some (strOfNums ((bi.drop m).take k), bi.drop (m + k)) := by
              rw [HTX.out, if_neg (by rintro (h | h | h) <;> omega), Int.toNat_natCast]
            have HSOME := Aside0.mk hsome
            have hmk : m + k ≤ bi.length := by omega
            clear hsome c2
            obtain ⟨i0, hi0, _, hs0, _⟩ := info_parts CEach.info_u8
            have hcutM := fun W => cut_mid (P := Try.prog) 25 5 .i64 .i64 Try.underlying25 hi0 1 hs0 Ai bi.length ci (m : Int) ((m : Int) + (k : Int)) (by omega) (by omega) (by omega) hci W
            clear hi0 hs0
            obtain ⟨A2, hcutF, h2, l2⟩ := cutFrom (P := Try.prog) 25 5 Try.underlying25 CEach.info_u8 .u8 Ai ci bi ((m : Int) + (k : Int)) (by omega) (by omega) hci
            rw [show ((m : Int) + (k : Int)).toNat = m + k from by omega] at hcutF h2 l2 hcutM
            rw [Int.toNat_natCast] at hcutM
            rw [show m + k - m = k from by omega] at hcutM
            obtain ⟨A3, hA3⟩ : ∃ A3 : Option Addr, A3 = (if ci = m then Ai else Ai.map (·.add (m * 1))) := ⟨_, rfl⟩
            rw [← hA3] at hcutM
            have HA3 := Aside0.mk hA3
            have H2 := Aside0.mk h2
            replace l2 := Aside0.mk l2
            clear hA3 h2
            have hd : Aside0 ((bi.take (m + k)).drop m = (bi.drop m).take k) := ⟨by rw [List.drop_take]; congr 1; omega⟩
            have hdl : Aside0 (((bi.drop m).take k).length = k) := ⟨by rw [List.length_take, List.length_drop]; omega⟩
            go_wp2_with (fail)
            refine (HV.out _ (Kd.C_below HC.out HB.out)).mono ?_; rintro e w1 ⟨rfl, hb⟩
            replace HO := Aside0.mk (Kd.R_below HO.out hb)
            replace HB := Aside0.mk (below_step HB.out hb)
            have hCm := Kd.C_mid (lo := m) (hi := m + k) (Kd.C_below HC.out HB.out) (by omega) hmk hci
            rw [hd.out, hdl.out] at hCm
            have hst := toStr1 (P := Try.prog) (A := A3) (ci - m) Try.underlying25 Try.underlying5 Try.underlying9 (by rw [HA3.out]; exact hCm)
            have HN1 := Aside0.mk (eachR_size i b _ HE.out).1
            clear hb hCm
            go_wp2_with (at_builtin; refine appendOneS (w0 := w) rfl (.tmp 37) (.tmp 46) rfl _ l _ rfl rfl HO.out HB.out (by have := HN1.out; (try simp only at this); omega) ?_; intro v4 w5 ho2 hb2 hg2; have HO5 := Aside0.mk ho2; have HB5 := Aside0.mk hb2; clear ho2 hb2 hg2)
            go_roundw
            case rel => exact ⟨i + 1, _, bi.drop (m + k), A2, ci - (m + k), by go_num, by omega, by rw [List.length_drop], l2.out, ⟨by rw [hsn.out, HE.out, Option.bind_some, HSOME.out]; rfl⟩, ⟨H2.out _ HC.out⟩, HO5, HB5⟩
            case measure => simp [intOf]; omega
    · obtain rfl : i = n := by omega
      obtain ⟨A1, c1, rfl, l1, h1⟩ := R_CS HO.out
      have H1 := Aside0.mk h1
      clear h1
      go_wp2_with (fail)
      go_ret3
      rw [HE.out]
      exact ⟨A1, c1, Ai, ci, rfl, l1, hci, H1.out, Kd.C_below HC.out HB.out, HB.out⟩

end Go.Proofs.Ytnecipeckamiiaa.CRefT

/- CRefN: The contract of the texts reference's numbered. -/
namespace Go.Proofs.Ytnecipeckamiiaa.CRefN
open Go.RowKit Go.Proofs.Ytnecipeckamiiaa.RVar Go.Proofs.YtnecipeckamiiaaW.PrintWords Go.Proofs.YtnecipeckamiiaaW.PrintLast Go.Proofs.YtnecipeckamiiaaW.PrintMore Go.Proofs.Ytnecipeckamiiaa.Num Go.Proofs.Ytnecipeckamiiaa.Bits Go.Proofs.Ytnecipeckamiiaa.VarM Go.Proofs.Ytnecipeckamiiaa.TextsT Go.Proofs.Ytnecipeckamiiaa.Hold Go.Proofs.Ytnecipeckamiiaa.HoldS Go.Proofs.Ytnecipeckamiiaa.KDict Go.Proofs.Ytnecipeckamiiaa.CFewT Go.Proofs.Ytnecipeckamiiaa.RefTM Go.Proofs.Ytnecipeckamiiaa.CRefT
set_option linter.unusedVariables false
set_option linter.unusedSimpArgs false
attribute [local go_sem] max2_int min2_int max_two min_two max_three min_three max_four min_four

/-- What numbered answers. -/
def NumPost (w : World) (M : Option (List ByteArray × List Int)) (e : Ending) (w' : World) : Prop :=
  match M with
  | none => e = .returned (.tuple #[.slice none 0 0, .bool false]) ∧ Below w.heap.size w w'
  | some q => ∃ A1 c1, e = .returned (.tuple #[.slice A1 q.1.length c1, .bool true]) ∧ q.1.length ≤ c1 ∧ Kd.C Kd.string w' A1 q.1.length q.1 ∧ Below w.heap.size w w'
theorem NumPost.none_ {w w' : World} {e : Ending} {M : Option (List ByteArray × List Int)} (hM : M = none) (he : e = .returned (.tuple #[.slice none 0 0, .bool false])) (hb : Below w.heap.size w w') : NumPost w M e w' := by
  subst hM
  exact ⟨he, hb⟩

set_option maxHeartbeats 8000000 in
set_option maxRecDepth 100000 in
theorem guardC (A : Option Addr) (c : Nat) (b : List Int) (n : Nat) (w : World) (hr : Kd.C (Kd.int .u8) w A b.length b) (hc : b.length ≤ c) (hb : Bytes b) (hl : b.length < 1000000000) (hn : n ≤ 3000) (u p : Int) (hv : var b = (u, p)) (hg : p = 0 ∨ u > n) :
    Calls Try.prog 28 #[.slice A b.length c, .int .i64 n] w fun e w' => e = .returned (.tuple #[.slice none 0 0, .bool false]) ∧ Below w.heap.size w w' := by
  have HR := Aside0.mk hr
  have HV := Aside0.mk (fun W h => refVar A c b W h hc hb)
  rw [hv] at HV
  clear hr hb hv
  have hwu : IntKind.u64.wrap (n : Int) = (n : Int) := wrap_u64_id (by omega) (by omega)
  by_cases h0 : p = 0
  · subst h0
    clear hg
    go_enter Try.func28, Try.ntmps28
    go_wp2_with (fail)
    refine (HV.out _ HR.out).mono ?_; rintro e w1 ⟨rfl, hb⟩
    have HB := Aside0.mk hb
    clear hb
    go_wp2_with (fail)
    go_ret2
    exact ⟨rfl, HB.out⟩
  · have hp0 : (p == 0) = false := beq_eq_false_iff_ne.mpr h0
    have hgt : decide ((n : Int) < u) = true := decide_eq_true (by omega)
    clear hg h0
    go_enter Try.func28, Try.ntmps28
    go_wp2_with (fail)
    refine (HV.out _ HR.out).mono ?_; rintro e w1 ⟨rfl, hb⟩
    have HB := Aside0.mk hb
    clear hb
    go_wp2_with (fail)
    go_ret2
    exact ⟨rfl, HB.out⟩
set_option maxHeartbeats 8000000 in
set_option maxRecDepth 100000 in
theorem mainC (A : Option Addr) (c : Nat) (b : List Int) (n : Nat) (w : World) (hr : Kd.C (Kd.int .u8) w A b.length b) (hc : b.length ≤ c) (hb : Bytes b) (hl : b.length < 1000000000) (hn : n ≤ 3000) (u m : Nat) (hv : var b = ((u : Int), (m : Int))) (h0 : m ≠ 0) (hun : u ≤ n) (hmb : m ≤ b.length)
    (M : Option (List ByteArray × List Int)) (hM : M = (eachR (b.drop m) u).bind fun p => placesR p.1 p.2 n) :
    Calls Try.prog 28 #[.slice A b.length c, .int .i64 n] w (NumPost w M) := by
  have HR := Aside0.mk hr
  have HBY := Aside0.mk hb
  have HV := Aside0.mk (fun W h => refVar A c b W h hc hb)
  rw [hv] at HV
  have HM := Aside0.mk hM
  obtain ⟨A2, hcut, h2, l2⟩ := cutFrom (P := Try.prog) 25 5 Try.underlying25 CEach.info_u8 .u8 A c b (m : Int) (by omega) (by omega) hc
  rw [Int.toNat_natCast] at hcut h2 l2
  have H2 := Aside0.mk h2
  have HEA := Aside0.mk (fun W h => eachC A2 (c - m) (b.drop m) u W h l2 (hb.drop _) (by rw [List.length_drop]; omega) (by omega))
  have hrest := fun p h => eachR_rest u (b.drop m) p (hb.drop _) h
  have HREST := Aside0.mk hrest
  have HLEN := Aside0.mk (show (b.drop m).length ≤ b.length from by rw [List.length_drop]; omega)
  have HSZ := Aside0.mk (fun p h => (eachR_size u (b.drop m) p h).1)
  clear hr hb hv hM h2 l2 hrest
  generalize b.drop m = D at *
  have hp0 : ((m : Int) == 0) = false := beq_eq_false_iff_ne.mpr (by omega)
  have hp0n : (m == 0) = false := beq_eq_false_iff_ne.mpr h0
  have hgt : decide ((n : Int) < (u : Int)) = false := decide_eq_false (by omega)
  have hgtn : decide (n < u) = false := decide_eq_false (by omega)
  have hwu : IntKind.u64.wrap (n : Int) = (n : Int) := wrap_u64_id (by omega) (by omega)
  go_enter Try.func28, Try.ntmps28
  go_wp2_with (fail)
  refine (HV.out _ HR.out).mono ?_; rintro e w1 ⟨rfl, hb⟩
  have HB1 := Aside0.mk hb
  have HD := Aside0.mk (H2.out _ (Kd.C_below HR.out hb))
  clear hb
  go_wp2_with (fail)
  refine (HEA.out _ HD.out).mono ?_
  cases hE : eachR D u with
  | none =>
    rintro e w2 ⟨rfl, hb⟩
    have HB2 := Aside0.mk (below_step HB1.out hb)
    have HN := Aside0.mk (show M = none by rw [HM.out, hE]; rfl)
    clear hb hE
    go_wp2_with (fail)
    go_ret2
    exact NumPost.none_ HN.out rfl HB2.out
  | some q =>
    obtain ⟨ws, r⟩ := q
    rintro e w2 ⟨Aw, cw, Ar, cr, rfl, lw, lr, hcw, hcr, hb⟩
    simp only at lw lr hcw hcr ⊢
    have HB2 := Aside0.mk (below_step HB1.out hb)
    have HW := Aside0.mk hcw
    have HRR := Aside0.mk hcr
    have hrr := HREST.out _ hE
    have hsz := HSZ.out _ hE
    have HMM := Aside0.mk (show M = placesR ws r n by rw [HM.out, hE]; rfl)
    have hrl : r.length < 1000000000 := by have h1 := hrr.2; have h2 := HLEN.out; simp only at h1; omega
    have hwl : ws.length ≤ 3000 := by simp only at hsz; omega
    have HRB := Aside0.mk (show Bytes r from hrr.1)
    clear hb hE hcw hcr hrr hsz HREST HEA HV hgt hgtn hp0 hp0n hcut HSZ HLEN
    have hwl2 : IntKind.u64.wrap (ws.length : Int) = (ws.length : Int) := wrap_u64_id (by omega) (by omega)
    go_wp2_with (fail)
    go_loopw [9, 11, 12] (fun v9 v11 v12 wr => ∃ (i : Nat) (l : List ByteArray) (bi : List Int) (Ai : Option Addr) (ci : Nat), v12 = .int .i64 i ∧ i ≤ n ∧ v9 = .slice Ai bi.length ci ∧ bi.length ≤ ci ∧ Aside0 (placesR ws r i = some (l, bi)) ∧ Aside0 (Kd.C (Kd.int .u8) w2 Ai bi.length bi) ∧ Aside0 (Kd.R Kd.string 9 wr w2.heap.size (fun _ => True) v11 l) ∧ Aside0 (Below w2.heap.size w2 wr)) (fun _ _ v12 _ => n - (intOf v12).toNat)
    case atStart => exact ⟨0, [], r, Ar, cr, by go_num, by omega, rfl, lr, ⟨by rw [placesR]⟩, HRR, ⟨R_emptyS w2⟩, ⟨below_alloc (Below.refl _ _) _⟩⟩
    case round =>
      obtain ⟨i, l, bi, Ai, ci, rfl, hin, rfl, hci, HE, HC, HO, HB⟩ := hrel
      by_cases hi : i < n
      · have hiI : (i : Int) < (n : Int) := by omega
        have hrest := placesR_rest ws i r _ HRB.out HE.out
        have hbb : Bytes bi := hrest.1
        have hsn := Aside0.mk (placesR_snoc ws i r)
        have hv := var_range hbb
        obtain ⟨x, hu⟩ : ∃ x, (var bi).1 = x := ⟨_, rfl⟩
        obtain ⟨y, hm⟩ : ∃ y : Nat, (var bi).2 = (y : Int) := Int.eq_ofNat_of_zero_le hv.2.2.1
        have HVB := Aside0.mk (fun W h => refVar Ai ci bi W h hci hbb)
        have HLL : Aside0 (l.length = i) := by
          have : ∀ (i : Nat) (b : List Int) p, placesR ws b i = some p → p.1.length = i := by
            intro i
            induction i with
            | zero => intro b p h; rw [placesR] at h; obtain rfl := Option.some.inj h; rfl
            | succ i ih =>
              intro b p h
              rw [placesR] at h
              split at h
              · cases h
              · obtain ⟨q, hq, rfl⟩ := Option.map_eq_some_iff.1 h
                simp [ih _ _ hq]
          exact ⟨this i r _ HE.out⟩
        rw [hu, hm] at HVB hv
        have hsn2 : placesR ws r (i + 1) = if (y : Int) = 0 ∨ x ≥ ws.length then none else some (l ++ [ws.getD x.toNat ByteArray.empty], bi.drop y) := by
          rw [hsn.out, HE.out, Option.bind_some]
          simp only
          rw [hu, hm, Int.toNat_natCast]
        have HSN := Aside0.mk hsn2
        have hyb : (y : Int) ≤ (bi.length : Int) := hv.2.2.2.1
        have hx0 : 0 ≤ x := hv.1
        have hx1 : x ≤ 18446744073709551615 := hv.2.1
        have hstop : placesR ws r (i + 1) = none → placesR ws r n = none := fun h => placesR_stop ws r (i + 1) n (by omega) h
        have HSTOP := Aside0.mk hstop
        clear hrest hbb hu hm hv hsn hsn2 hstop
        by_cases c0 : y = 0
        · subst c0
          have HNONE : Aside0 (M = none) := ⟨by rw [HMM.out]; exact HSTOP.out (by rw [HSN.out, if_pos (.inl rfl)])⟩
          clear hx1
          go_wp2_with (fail)
          refine (HVB.out _ (Kd.C_below HC.out HB.out)).mono ?_; rintro e w3 ⟨rfl, hb⟩
          have HB3 := Aside0.mk (below_step HB2.out (below_step HB.out hb))
          clear hb
          go_wp2_with (fail)
          go_ret2
          exact NumPost.none_ HNONE.out rfl HB3.out
        · have hy0 : ((y : Int) == 0) = false := beq_eq_false_iff_ne.mpr (by omega)
          have hy0n : (y == 0) = false := beq_eq_false_iff_ne.mpr c0
          by_cases c1 : x ≥ (ws.length : Int)
          · have HNONE : Aside0 (M = none) := ⟨by rw [HMM.out]; exact HSTOP.out (by rw [HSN.out, if_pos (.inr c1)])⟩
            have hge : decide ((ws.length : Int) ≤ x) = true := decide_eq_true c1
            clear hx1 c1
            go_wp2_with (fail)
            refine (HVB.out _ (Kd.C_below HC.out HB.out)).mono ?_; rintro e w3 ⟨rfl, hb⟩
            have HB3 := Aside0.mk (below_step HB2.out (below_step HB.out hb))
            clear hb
            go_wp2_with (fail)
            go_ret2
            exact NumPost.none_ HNONE.out rfl HB3.out
          · obtain ⟨k, rfl⟩ := Int.eq_ofNat_of_zero_le hx0
            have hge : decide ((ws.length : Int) ≤ (k : Int)) = false := decide_eq_false c1
            have hgen : decide (ws.length ≤ k) = false := decide_eq_false (by omega)
            have HNEXT : Aside0 (placesR ws r (i + 1) = some (l ++ [ws.getD k ByteArray.empty], bi.drop y)) := ⟨by rw [HSN.out, if_neg (by rintro (h | h) <;> omega), Int.toNat_natCast]⟩
            have hkw : (k : Int) < (ws.length : Int) := by omega
            clear hx1 hx0 c1
            obtain ⟨A3, hcutF, h3, l3⟩ := cutFrom (P := Try.prog) 25 5 Try.underlying25 CEach.info_u8 .u8 Ai ci bi (y : Int) (by omega) (by omega) hci
            rw [Int.toNat_natCast] at hcutF h3 l3
            have H3 := Aside0.mk h3
            replace l3 := Aside0.mk l3
            clear h3
            obtain ⟨aw, rfl, hcell⟩ := Kd.at_string (Kd.C_below HW.out HB.out) (k : Int) (by omega) hkw
            have hg : rdOf ByteArray.empty ws (k : Int) = ws.getD k ByteArray.empty := by simp [rdOf]
            rw [hg, Int.toNat_natCast] at hcell
            clear hg
            generalize ws.getD k ByteArray.empty = s at hcell HNEXT
            go_wp2_with (fail)
            refine (HVB.out _ (Kd.C_below HC.out HB.out)).mono ?_; rintro e w3 ⟨rfl, hb⟩
            have hcell3 := pw_cell_below hb hcell
            replace HO := Aside0.mk (Kd.R_below HO.out hb)
            replace HB := Aside0.mk (below_step HB.out hb)
            clear hb hcell
            go_wp2_with (at_builtin; refine appendOneS (w0 := w2) rfl (.tmp 60) (.tmp 65) rfl _ l _ rfl rfl HO.out HB.out (by have := HLL.out; omega) ?_; intro v4 w5 ho2 hb2 hg2; have HO5 := Aside0.mk ho2; have HB5 := Aside0.mk hb2; clear ho2 hb2 hg2)
            go_roundw
            case rel => exact ⟨i + 1, _, bi.drop y, A3, ci - y, by go_num, by omega, by rw [List.length_drop], l3.out, HNEXT, ⟨H3.out _ HC.out⟩, HO5, HB5⟩
            case measure => simp [intOf]; omega
      · obtain rfl : i = n := by omega
        obtain ⟨A1, c1, rfl, l1, h1⟩ := R_CS HO.out
        have H1 := Aside0.mk h1
        clear h1
        go_wp2_with (fail)
        go_ret2
        rw [HMM.out, HE.out]
        exact ⟨A1, c1, rfl, l1, H1.out, below_step HB2.out HB.out⟩

theorem numberedC (A : Option Addr) (c : Nat) (b : List Int) (n : Nat) (w : World) (hr : Kd.C (Kd.int .u8) w A b.length b) (hc : b.length ≤ c) (hb : Bytes b) (hl : b.length < 1000000000) (hn : n ≤ 3000) :
    Calls Try.prog 28 #[.slice A b.length c, .int .i64 n] w (NumPost w (numberedR b n)) := by
  have hv := var_range hb
  unfold numberedR
  by_cases h : (var b).2 = 0 ∨ (var b).1 > n
  · rw [if_pos h]
    exact guardC A c b n w hr hc hb hl hn _ _ rfl h
  · rw [if_neg h]
    obtain ⟨u, hu⟩ : ∃ u : Nat, (var b).1 = (u : Int) := Int.eq_ofNat_of_zero_le hv.1
    obtain ⟨m, hm⟩ : ∃ m : Nat, (var b).2 = (m : Int) := Int.eq_ofNat_of_zero_le hv.2.2.1
    rw [hu, hm] at h hv
    refine mainC A c b n w hr hc hb hl hn u m (Prod.ext hu hm) (by omega) (by omega) (by omega) _ ?_
    rw [hu, hm, Int.toNat_natCast, Int.toNat_natCast]
end Go.Proofs.Ytnecipeckamiiaa.CRefN

/- CRefTT: The contract of the texts reference's Take. -/
namespace Go.Proofs.Ytnecipeckamiiaa.CRefTT
open Go.RowKit Go.Proofs.Ytnecipeckamiiaa.RVar Go.Proofs.YtnecipeckamiiaaW.PrintWords Go.Proofs.YtnecipeckamiiaaW.PrintLast Go.Proofs.YtnecipeckamiiaaW.PrintMore Go.Proofs.Ytnecipeckamiiaa.Num Go.Proofs.Ytnecipeckamiiaa.Bits Go.Proofs.Ytnecipeckamiiaa.VarM Go.Proofs.Ytnecipeckamiiaa.TextsT Go.Proofs.Ytnecipeckamiiaa.Hold Go.Proofs.Ytnecipeckamiiaa.HoldS Go.Proofs.Ytnecipeckamiiaa.KDict Go.Proofs.Ytnecipeckamiiaa.CFewT Go.Proofs.Ytnecipeckamiiaa.RefTM Go.Proofs.Ytnecipeckamiiaa.CRefT Go.Proofs.Ytnecipeckamiiaa.CRefN
open Go.Proofs.Ytnecipeckamiiaa.CPutT (refPutT)
set_option linter.unusedVariables false
set_option linter.unusedSimpArgs false
attribute [local go_sem] max2_int min2_int max_two min_two max_three min_three max_four min_four

set_option maxHeartbeats 8000000 in
set_option maxRecDepth 100000 in
theorem guard_zero (A : Option Addr) (c : Nat) (b : List Int) (w : World) (hr : Kd.C (Kd.int .u8) w A b.length b) (hc : b.length ≤ c) (hb : Bytes b) (hl : b.length < 1000000000) (u p : Int) (hv : var b = (u, p)) (h0 : p = 0) :
    Calls Try.prog 15 #[.slice A b.length c] w fun e w' => e = .returned (.tuple #[.slice none 0 0, .int .i64 10]) ∧ Below w.heap.size w w' := by
  have HR := Aside0.mk hr
  have HV := Aside0.mk (fun W h => refVar A c b W h hc hb)
  rw [hv] at HV
  clear hr hb hv
  subst h0
  go_enter Try.func15, Try.ntmps15
  go_wp2_with (fail)
  refine (HV.out _ HR.out).mono ?_; rintro e w1 ⟨rfl, hb⟩
  have HB := Aside0.mk hb
  clear hb
  go_wp2_with (fail)
  go_ret2
  exact ⟨rfl, HB.out⟩

set_option maxHeartbeats 8000000 in
set_option maxRecDepth 100000 in
theorem guard_big (A : Option Addr) (c : Nat) (b : List Int) (w : World) (hr : Kd.C (Kd.int .u8) w A b.length b) (hc : b.length ≤ c) (hb : Bytes b) (hl : b.length < 1000000000) (u p : Int) (hv : var b = (u, p)) (h0 : p ≠ 0) (h1 : u > 2000) :
    Calls Try.prog 15 #[.slice A b.length c] w fun e w' => e = .returned (.tuple #[.slice none 0 0, .int .i64 10]) ∧ Below w.heap.size w w' := by
  have HR := Aside0.mk hr
  have HV := Aside0.mk (fun W h => refVar A c b W h hc hb)
  rw [hv] at HV
  clear hr hb hv
  have hp0 : (p == 0) = false := beq_eq_false_iff_ne.mpr h0
  have hgt : decide ((2000 : Int) < u) = true := decide_eq_true h1
  clear h0 h1
  go_enter Try.func15, Try.ntmps15
  go_wp2_with (fail)
  refine (HV.out _ HR.out).mono ?_; rintro e w1 ⟨rfl, hb⟩
  have HB := Aside0.mk hb
  clear hb
  go_wp2_with (fail)
  go_ret2
  exact ⟨rfl, HB.out⟩

set_option maxHeartbeats 8000000 in
set_option maxRecDepth 100000 in
theorem guard_short (A : Option Addr) (c : Nat) (b : List Int) (w : World) (hr : Kd.C (Kd.int .u8) w A b.length b) (hc : b.length ≤ c) (hb : Bytes b) (hl : b.length < 1000000000) (u p : Int) (hv : var b = (u, p)) (h0 : p ≠ 0) (h1 : ¬ u > 2000) (h2 : p ≥ b.length) :
    Calls Try.prog 15 #[.slice A b.length c] w fun e w' => e = .returned (.tuple #[.slice none 0 0, .int .i64 10]) ∧ Below w.heap.size w w' := by
  have HR := Aside0.mk hr
  have HV := Aside0.mk (fun W h => refVar A c b W h hc hb)
  rw [hv] at HV
  clear hr hb hv
  have hp0 : (p == 0) = false := beq_eq_false_iff_ne.mpr h0
  have hgt : decide ((2000 : Int) < u) = false := decide_eq_false h1
  have hge : decide ((b.length : Int) ≤ p) = true := decide_eq_true h2
  clear h0 h1 h2
  go_enter Try.func15, Try.ntmps15
  go_wp2_with (fail)
  refine (HV.out _ HR.out).mono ?_; rintro e w1 ⟨rfl, hb⟩
  have HB := Aside0.mk hb
  clear hb
  go_wp2_with (fail)
  go_ret2
  exact ⟨rfl, HB.out⟩

set_option maxHeartbeats 8000000 in
set_option maxRecDepth 100000 in
theorem way1_none_bad (A : Option Addr) (c : Nat) (b : List Int) (w : World) (hr : Kd.C (Kd.int .u8) w A b.length b) (hc : b.length ≤ c) (hb : Bytes b) (hl : b.length < 1000000000) (n m : Nat) (hv : var b = ((n : Int), (m : Int))) (h0 : m ≠ 0) (hn : n ≤ 2000) (hm : m < b.length) (hway : b.getD m 0 = 1) (hE : eachR (b.drop (m + 1)) n = none) (hN : numberedR (b.drop (m + 1)) n = none)  :
    Calls Try.prog 15 #[.slice A b.length c] w fun e w' => e = .returned (.tuple #[.slice none 0 0, .int .i64 10]) ∧ Below w.heap.size w w' := by
  have HR := Aside0.mk hr
  have HV := Aside0.mk (fun W h => refVar A c b W h hc hb)
  rw [hv] at HV
  obtain ⟨A2, hcut, h2, l2⟩ := cutFrom (P := Try.prog) 25 5 Try.underlying25 CEach.info_u8 .u8 A c b ((m : Int) + 1) (by omega) (by omega) hc
  rw [show ((m : Int) + 1).toNat = m + 1 from by omega] at hcut h2 l2
  have H2 := Aside0.mk h2
  have HEA := Aside0.mk (fun W h => CRefT.eachC A2 (c - (m + 1)) (b.drop (m + 1)) n W h l2 (hb.drop _) (by rw [List.length_drop]; omega) (by omega))
  rw [hE] at HEA
  have HNU := Aside0.mk (fun W h => numberedC A2 (c - (m + 1)) (b.drop (m + 1)) n W h l2 (hb.drop _) (by rw [List.length_drop]; omega) (by omega))
  rw [hN] at HNU
  clear hN
  obtain ⟨ad, rfl, hcells⟩ := C_cells hr (by omega)
  have HC0 := Aside0.mk (hcells m hm)
  clear hcells
  obtain ⟨k, hk⟩ : ∃ k, b.getD m 0 = k := ⟨_, rfl⟩
  rw [hk] at HC0 hway
  clear hk
  subst hway
  clear hr hb hv hE l2 h2
  generalize b.drop (m + 1) = D at *
  have hp0 : ((m : Int) == 0) = false := beq_eq_false_iff_ne.mpr (by omega)
  have hp0n : (m == 0) = false := beq_eq_false_iff_ne.mpr h0
  have hgt : decide ((2000 : Int) < (n : Int)) = false := decide_eq_false (by omega)
  have hge : decide ((b.length : Int) ≤ (m : Int)) = false := decide_eq_false (by omega)
  have hgen : decide (b.length ≤ m) = false := decide_eq_false (by omega)
  have hmI : (m : Int) < (b.length : Int) := by omega
  go_enter Try.func15, Try.ntmps15
  go_wp2_with (fail)
  refine (HV.out _ HR.out).mono ?_; rintro e w1 ⟨rfl, hb⟩
  have HB1 := Aside0.mk hb
  have HD := Aside0.mk (H2.out _ (Kd.C_below HR.out hb))
  have hc0 := pw_cell_below hb HC0.out
  clear hb HC0 H2 HV
  go_wp2_with (fail)
  refine (HEA.out _ HD.out).mono ?_
  rintro e w2 ⟨rfl, hb⟩
  have HB2 := Aside0.mk (below_step HB1.out hb)
  have HD2 := Aside0.mk (Kd.C_below HD.out hb)
  have hc2 := pw_cell_below hb hc0
  clear hb HEA hc0
  go_wp2_with (fail)
  refine (HNU.out _ HD2.out).mono ?_
  rintro e w3 ⟨rfl, hb⟩
  have HB3 := Aside0.mk (below_step HB2.out hb)
  clear hb
  clear HNU hc2
  go_wp2_with (fail)
  refine start_ (n := 10) (S := fun w' => True) (ds := []) #[false, false, false, false, false, false, false, false, false, false] (by kernel_rfl) rfl rfl trivial (fun hHeld => ?_)
  refine pure_ (i := 0) (N := some 52) (v := ?_) (a' := ?_) #[true, false, false, false, false, false, false, false, false, false] rfl rfl (by kernel_rfl) (fun _ _ _ h => h) (Or.inl ⟨by rfl, ?_⟩) ?_ ?_
  rotate_left
  · intro w'
    go_simp
    with_reducible rfl
  rotate_left
  · simp only [Act.put, List.setIfInBounds_toArray, List.set_cons_zero, List.set_cons_succ, i64_w, i32_w]
    rfl
  refine pure_ (i := 1) (N := some 53) (v := ?_) (a' := ?_) #[true, true, false, false, false, false, false, false, false, false] rfl rfl (by kernel_rfl) (fun _ _ _ h => h) (Or.inl ⟨by rfl, ?_⟩) ?_ ?_
  rotate_left
  · intro w'
    go_simp
    with_reducible rfl
  rotate_left
  · simp only [Act.put, List.setIfInBounds_toArray, List.set_cons_zero, List.set_cons_succ, i64_w, i32_w]
    rfl
  refine pure_ (i := 2) (N := some 54) (v := ?_) (a' := ?_) #[true, true, true, false, false, false, false, false, false, false] rfl rfl (by kernel_rfl) (fun _ _ _ h => h) (Or.inl ⟨by rfl, ?_⟩) ?_ ?_
  rotate_left
  · intro w'
    go_simp
    with_reducible rfl
  rotate_left
  · simp only [Act.put, List.setIfInBounds_toArray, List.set_cons_zero, List.set_cons_succ, i64_w, i32_w]
    rfl
  refine pure_ (i := 3) (N := some 55) (v := undef) (a' := ?_) #[true, true, true, true, false, false, false, false, false, false] rfl rfl (by kernel_rfl) (fun _ _ _ h => h) (Or.inr ⟨by rfl, rfl⟩) ?_ ?_
  rotate_left
  · simp only [Act.put, List.setIfInBounds_toArray, List.set_cons_zero, List.set_cons_succ, i64_w, i32_w]
    rfl
  refine pure_ (i := 4) (N := some 56) (v := undef) (a' := ?_) #[true, true, true, true, true, false, false, false, false, false] rfl rfl (by kernel_rfl) (fun _ _ _ h => h) (Or.inr ⟨by rfl, rfl⟩) ?_ ?_
  rotate_left
  · simp only [Act.put, List.setIfInBounds_toArray, List.set_cons_zero, List.set_cons_succ, i64_w, i32_w]
    rfl
  refine pure_ (i := 5) (N := some 57) (v := undef) (a' := ?_) #[true, true, true, true, true, true, false, false, false, false] rfl rfl (by kernel_rfl) (fun _ _ _ h => h) (Or.inr ⟨by rfl, rfl⟩) ?_ ?_
  rotate_left
  · simp only [Act.put, List.setIfInBounds_toArray, List.set_cons_zero, List.set_cons_succ, i64_w, i32_w]
    rfl
  refine pure_ (i := 6) (N := some 58) (v := undef) (a' := ?_) #[true, true, true, true, true, true, true, false, false, false] rfl rfl (by kernel_rfl) (fun _ _ _ h => h) (Or.inr ⟨by rfl, rfl⟩) ?_ ?_
  rotate_left
  · simp only [Act.put, List.setIfInBounds_toArray, List.set_cons_zero, List.set_cons_succ, i64_w, i32_w]
    rfl
  refine pure_ (i := 7) (N := some 59) (v := undef) (a' := ?_) #[true, true, true, true, true, true, true, true, false, false] rfl rfl (by kernel_rfl) (fun _ _ _ h => h) (Or.inr ⟨by rfl, rfl⟩) ?_ ?_
  rotate_left
  · simp only [Act.put, List.setIfInBounds_toArray, List.set_cons_zero, List.set_cons_succ, i64_w, i32_w]
    rfl
  refine pure_ (i := 8) (N := some 60) (v := undef) (a' := ?_) #[true, true, true, true, true, true, true, true, true, false] rfl rfl (by kernel_rfl) (fun _ _ _ h => h) (Or.inr ⟨by rfl, rfl⟩) ?_ ?_
  rotate_left
  · simp only [Act.put, List.setIfInBounds_toArray, List.set_cons_zero, List.set_cons_succ, i64_w, i32_w]
    rfl
  refine pure_ (i := 9) (N := some 61) (v := ?_) (a' := ?_) #[true, true, true, true, true, true, true, true, true, true] rfl rfl (by kernel_rfl) (fun _ _ _ h => h) (Or.inl ⟨by rfl, ?_⟩) ?_ ?_
  rotate_left
  · intro w'
    go_simp
    with_reducible rfl
  rotate_left
  · simp only [Act.put, List.setIfInBounds_toArray, List.set_cons_zero, List.set_cons_succ, i64_w, i32_w]
    rfl
  refine done_ (by kernel_rfl) ?_
  have HB8 := Aside0.mk (below_drew HB3.out)
  go_wp2_with (fail)
  go_ret2
  exact ⟨rfl, HB8.out⟩

set_option maxHeartbeats 8000000 in
set_option maxRecDepth 100000 in
theorem way1_none_other (A : Option Addr) (c : Nat) (b : List Int) (w : World) (hr : Kd.C (Kd.int .u8) w A b.length b) (hc : b.length ≤ c) (hb : Bytes b) (hl : b.length < 1000000000) (n m : Nat) (hv : var b = ((n : Int), (m : Int))) (h0 : m ≠ 0) (hn : n ≤ 2000) (hm : m < b.length) (hway : b.getD m 0 = 1) (hE : eachR (b.drop (m + 1)) n = none) (l : List ByteArray) (r2 : List Int) (hN : numberedR (b.drop (m + 1)) n = some (l, r2)) (hln : l.length ≤ 2000) (hsz : ∀ s ∈ l, s.size ≤ 1000) (hput : put l ≠ b) :
    Calls Try.prog 15 #[.slice A b.length c] w fun e w' => e = .returned (.tuple #[.slice none 0 0, .int .i64 10]) ∧ Below w.heap.size w w' := by
  have HR := Aside0.mk hr
  have HV := Aside0.mk (fun W h => refVar A c b W h hc hb)
  rw [hv] at HV
  obtain ⟨A2, hcut, h2, l2⟩ := cutFrom (P := Try.prog) 25 5 Try.underlying25 CEach.info_u8 .u8 A c b ((m : Int) + 1) (by omega) (by omega) hc
  rw [show ((m : Int) + 1).toNat = m + 1 from by omega] at hcut h2 l2
  have H2 := Aside0.mk h2
  have HEA := Aside0.mk (fun W h => CRefT.eachC A2 (c - (m + 1)) (b.drop (m + 1)) n W h l2 (hb.drop _) (by rw [List.length_drop]; omega) (by omega))
  rw [hE] at HEA
  have HNU := Aside0.mk (fun W h => numberedC A2 (c - (m + 1)) (b.drop (m + 1)) n W h l2 (hb.drop _) (by rw [List.length_drop]; omega) (by omega))
  rw [hN] at HNU
  clear hN
  obtain ⟨ad, rfl, hcells⟩ := C_cells hr (by omega)
  have HC0 := Aside0.mk (hcells m hm)
  clear hcells
  obtain ⟨k, hk⟩ : ∃ k, b.getD m 0 = k := ⟨_, rfl⟩
  rw [hk] at HC0 hway
  clear hk
  subst hway
  have hne : Aside0 (((strOfNums (put l)).toList == (strOfNums b).toList) = false) := ⟨by rw [beq_eq_false_iff_ne]; exact fun h => hput (str_inj (put_Bytes _) hb h)⟩
  have hne2 : Aside0 (((strOfNums (put l)).toList != (strOfNums b).toList) = true) := ⟨by rw [bne, hne.out]; rfl⟩
  clear hput
  have HSZ := Aside0.mk hsz
  clear hsz
  clear hr hb hv hE l2 h2
  generalize b.drop (m + 1) = D at *
  have hp0 : ((m : Int) == 0) = false := beq_eq_false_iff_ne.mpr (by omega)
  have hp0n : (m == 0) = false := beq_eq_false_iff_ne.mpr h0
  have hgt : decide ((2000 : Int) < (n : Int)) = false := decide_eq_false (by omega)
  have hge : decide ((b.length : Int) ≤ (m : Int)) = false := decide_eq_false (by omega)
  have hgen : decide (b.length ≤ m) = false := decide_eq_false (by omega)
  have hmI : (m : Int) < (b.length : Int) := by omega
  go_enter Try.func15, Try.ntmps15
  go_wp2_with (fail)
  refine (HV.out _ HR.out).mono ?_; rintro e w1 ⟨rfl, hb⟩
  have HB1 := Aside0.mk hb
  have HD := Aside0.mk (H2.out _ (Kd.C_below HR.out hb))
  have hc0 := pw_cell_below hb HC0.out
  clear hb HC0 H2 HV
  go_wp2_with (fail)
  refine (HEA.out _ HD.out).mono ?_
  rintro e w2 ⟨rfl, hb⟩
  have HB2 := Aside0.mk (below_step HB1.out hb)
  have HD2 := Aside0.mk (Kd.C_below HD.out hb)
  have hc2 := pw_cell_below hb hc0
  clear hb HEA hc0
  go_wp2_with (fail)
  refine (HNU.out _ HD2.out).mono ?_
  rintro e w3 ⟨Al, cl, rfl, ll, hcl, hb⟩
  simp only at ll hcl ⊢
  have HB3 := Aside0.mk (below_step HB2.out hb)
  have HLL := Aside0.mk hcl
  clear hb hcl
  clear HNU hc2
  go_wp2_with (fail)
  have HS : Aside0 (∀ W, Below w3.heap.size w3 W → (convert 25 9 (.slice (some ad) b.length c)).run Try.prog W = .ok (.string (strOfNums b)) W) := by
    have h1 := Kd.C_below HR.out HB3.out
    exact ⟨fun W hW => toStr1 (P := Try.prog) c Try.underlying25 Try.underlying5 Try.underlying9 (Kd.C_below h1 hW)⟩
  have hs1 := HS.out _ (below_drew (Below.refl _ _))
  have hnee := hne.out
  have hnee2 := hne2.out
  refine start_ (n := 10) (S := fun w' => (convert 25 9 (.slice (some ad) b.length c)).run Try.prog w' = .ok (.string (strOfNums b)) w') (ds := []) #[false, false, false, false, false, false, false, false, false, false] (by kernel_rfl) rfl rfl (hs1) (fun hHeld => ?_)
  refine pure_ (i := 0) (N := some 52) (v := ?_) (a' := ?_) #[true, false, false, false, false, false, false, false, false, false] rfl rfl (by kernel_rfl) (fun _ _ _ h => h) (Or.inl ⟨by rfl, ?_⟩) ?_ ?_
  rotate_left
  · intro w'
    go_simp
    with_reducible rfl
  rotate_left
  · simp only [Act.put, List.setIfInBounds_toArray, List.set_cons_zero, List.set_cons_succ, i64_w, i32_w]
    rfl
  refine pure_ (i := 1) (N := some 53) (v := ?_) (a' := ?_) #[true, true, false, false, false, false, false, false, false, false] rfl rfl (by kernel_rfl) (fun _ _ _ h => h) (Or.inl ⟨by rfl, ?_⟩) ?_ ?_
  rotate_left
  · intro w'
    go_simp
    with_reducible rfl
  rotate_left
  · simp only [Act.put, List.setIfInBounds_toArray, List.set_cons_zero, List.set_cons_succ, i64_w, i32_w]
    rfl
  refine pure_ (i := 2) (N := some 54) (v := ?_) (a' := ?_) #[true, true, true, false, false, false, false, false, false, false] rfl rfl (by kernel_rfl) (fun _ _ _ h => h) (Or.inl ⟨by rfl, ?_⟩) ?_ ?_
  rotate_left
  · intro w'
    go_simp
    with_reducible rfl
  rotate_left
  · simp only [Act.put, List.setIfInBounds_toArray, List.set_cons_zero, List.set_cons_succ, i64_w, i32_w]
    rfl
  refine pure_ (i := 3) (N := some 55) (v := ?_) (a' := ?_) #[true, true, true, true, false, false, false, false, false, false] rfl rfl (by kernel_rfl) (fun _ _ _ h => h) (Or.inl ⟨by rfl, ?_⟩) ?_ ?_
  rotate_left
  · intro w'
    go_simp
    with_reducible rfl
  rotate_left
  · simp only [Act.put, List.setIfInBounds_toArray, List.set_cons_zero, List.set_cons_succ, i64_w, i32_w]
    rfl
  refine pure_ (i := 6) (N := some 58) (v := ?_) (a' := ?_) #[true, true, true, true, false, false, true, false, false, false] rfl rfl (by kernel_rfl) (fun _ _ _ h => h) (Or.inl ⟨by rfl, ?_⟩) ?_ ?_
  rotate_left
  · intro w'
    go_simp
    with_reducible rfl
  rotate_left
  · simp only [Act.put, List.setIfInBounds_toArray, List.set_cons_zero, List.set_cons_succ, i64_w, i32_w]
    rfl
  refine take_ (i := 7) (N := some 59) (v := ?_) (a' := ?_) #[true, true, true, true, false, false, true, true, false, false] rfl rfl (by kernel_rfl) (fun _ _ _ h => h) (Or.inl ⟨by rfl, ?_⟩) hHeld ?_ ?_
  rotate_left
  · intro w' s0
    go_simp
    with_reducible rfl
  rotate_left
  · simp only [Act.put, List.setIfInBounds_toArray, List.set_cons_zero, List.set_cons_succ, i64_w, i32_w]
    rfl
  refine one_ (i := 4) (N := some 56) #[true, true, true, true, true, false, true, true, false, false] rfl rfl (by kernel_rfl) (by decide) (fun K hK => ?_)
  refine goes_ Try.func19 (by kernel_rfl) rfl #[.slice Al l.length cl] (by rfl) rfl rfl (by simp only [List.map_toArray, List.map_cons, List.map_nil]; rfl) ?_
  refine (refPutT Al cl l _ (Kd.C_drew HLL.out) ll hln HSZ.out).mono ?_
  rintro e w8 ⟨v, rfl, ho, hb2⟩
  refine ⟨_, rfl, ?_⟩
  obtain ⟨Ab, cb, rfl, lb, ho⟩ := R_C ho
  have s8 := toStr1 (P := Try.prog) cb Try.underlying25 Try.underlying5 Try.underlying9 ho
  have hs1 := HS.out _ (below_step (below_drew (Below.refl _ _)) hb2)
  have HB8 := Aside0.mk (below_step (below_drew HB3.out) hb2)
  have HL8 := Aside0.mk (Kd.C_below (Kd.C_drew HLL.out) hb2)
  clear ho hb2
  refine hK.out _ _ (hs1) (fun hHeld => ?_)
  clear hK K
  refine norm_ (a' := ?_) ?_ ?_
  rotate_left
  · show Act.put _ (some 56) _ = _
    simp only [Act.put, List.setIfInBounds_toArray, List.set_cons_zero, List.set_cons_succ, i64_w, i32_w]
    rfl
  refine one_ (i := 5) (N := some 57) #[true, true, true, true, true, true, true, true, false, false] rfl rfl (by kernel_rfl) (by decide) (fun K hK => ?_)
  refine value_ (w1 := ?_) (v := ?_) (by rfl) rfl ?_ ?_
  rotate_left 2
  · go_simp
    constructor
    · rfl
    · rfl
  refine hK.out _ _ (hs1) (fun hHeld => ?_)
  clear hK K
  refine norm_ (a' := ?_) ?_ ?_
  rotate_left
  · show Act.put _ (some 57) _ = _
    simp only [Act.put, List.setIfInBounds_toArray, List.set_cons_zero, List.set_cons_succ, i64_w, i32_w]
    rfl
  refine pure_ (i := 8) (N := some 60) (v := ?_) (a' := ?_) #[true, true, true, true, true, true, true, true, true, false] rfl rfl (by kernel_rfl) (fun _ _ _ h => h) (Or.inl ⟨by rfl, ?_⟩) ?_ ?_
  rotate_left
  · intro w'
    go_simp
    with_reducible rfl
  rotate_left
  · simp only [Act.put, List.setIfInBounds_toArray, List.set_cons_zero, List.set_cons_succ, i64_w, i32_w]
    rfl
  refine pure_ (i := 9) (N := some 61) (v := ?_) (a' := ?_) #[true, true, true, true, true, true, true, true, true, true] rfl rfl (by kernel_rfl) (fun _ _ _ h => h) (Or.inl ⟨by rfl, ?_⟩) ?_ ?_
  rotate_left
  · intro w'
    go_simp
    with_reducible rfl
  rotate_left
  · simp only [Act.put, List.setIfInBounds_toArray, List.set_cons_zero, List.set_cons_succ, i64_w, i32_w]
    rfl
  refine done_ (by kernel_rfl) ?_
  go_wp2_with (fail)
  go_ret2
  exact ⟨rfl, HB8.out⟩

set_option maxHeartbeats 8000000 in
set_option maxRecDepth 100000 in
theorem way1_none_good (A : Option Addr) (c : Nat) (b : List Int) (w : World) (hr : Kd.C (Kd.int .u8) w A b.length b) (hc : b.length ≤ c) (hb : Bytes b) (hl : b.length < 1000000000) (n m : Nat) (hv : var b = ((n : Int), (m : Int))) (h0 : m ≠ 0) (hn : n ≤ 2000) (hm : m < b.length) (hway : b.getD m 0 = 1) (hE : eachR (b.drop (m + 1)) n = none) (l : List ByteArray) (r2 : List Int) (hN : numberedR (b.drop (m + 1)) n = some (l, r2)) (hln : l.length ≤ 2000) (hsz : ∀ s ∈ l, s.size ≤ 1000) (hput : put l = b) :
    Calls Try.prog 15 #[.slice A b.length c] w fun e w' => ∃ A' c', e = .returned (.tuple #[.slice A' l.length c', .int .i64 0]) ∧ l.length ≤ c' ∧ Kd.C Kd.string w' A' l.length l ∧ Below w.heap.size w w' := by
  have HR := Aside0.mk hr
  have HV := Aside0.mk (fun W h => refVar A c b W h hc hb)
  rw [hv] at HV
  obtain ⟨A2, hcut, h2, l2⟩ := cutFrom (P := Try.prog) 25 5 Try.underlying25 CEach.info_u8 .u8 A c b ((m : Int) + 1) (by omega) (by omega) hc
  rw [show ((m : Int) + 1).toNat = m + 1 from by omega] at hcut h2 l2
  have H2 := Aside0.mk h2
  have HEA := Aside0.mk (fun W h => CRefT.eachC A2 (c - (m + 1)) (b.drop (m + 1)) n W h l2 (hb.drop _) (by rw [List.length_drop]; omega) (by omega))
  rw [hE] at HEA
  have HNU := Aside0.mk (fun W h => numberedC A2 (c - (m + 1)) (b.drop (m + 1)) n W h l2 (hb.drop _) (by rw [List.length_drop]; omega) (by omega))
  rw [hN] at HNU
  clear hN
  obtain ⟨ad, rfl, hcells⟩ := C_cells hr (by omega)
  have HC0 := Aside0.mk (hcells m hm)
  clear hcells
  obtain ⟨k, hk⟩ : ∃ k, b.getD m 0 = k := ⟨_, rfl⟩
  rw [hk] at HC0 hway
  clear hk
  subst hway
  have HP := Aside0.mk hput
  clear hput
  have HSZ := Aside0.mk hsz
  clear hsz
  clear hr hb hv hE l2 h2
  generalize b.drop (m + 1) = D at *
  have hp0 : ((m : Int) == 0) = false := beq_eq_false_iff_ne.mpr (by omega)
  have hp0n : (m == 0) = false := beq_eq_false_iff_ne.mpr h0
  have hgt : decide ((2000 : Int) < (n : Int)) = false := decide_eq_false (by omega)
  have hge : decide ((b.length : Int) ≤ (m : Int)) = false := decide_eq_false (by omega)
  have hgen : decide (b.length ≤ m) = false := decide_eq_false (by omega)
  have hmI : (m : Int) < (b.length : Int) := by omega
  go_enter Try.func15, Try.ntmps15
  go_wp2_with (fail)
  refine (HV.out _ HR.out).mono ?_; rintro e w1 ⟨rfl, hb⟩
  have HB1 := Aside0.mk hb
  have HD := Aside0.mk (H2.out _ (Kd.C_below HR.out hb))
  have hc0 := pw_cell_below hb HC0.out
  clear hb HC0 H2 HV
  go_wp2_with (fail)
  refine (HEA.out _ HD.out).mono ?_
  rintro e w2 ⟨rfl, hb⟩
  have HB2 := Aside0.mk (below_step HB1.out hb)
  have HD2 := Aside0.mk (Kd.C_below HD.out hb)
  have hc2 := pw_cell_below hb hc0
  clear hb HEA hc0
  go_wp2_with (fail)
  refine (HNU.out _ HD2.out).mono ?_
  rintro e w3 ⟨Al, cl, rfl, ll, hcl, hb⟩
  simp only at ll hcl ⊢
  have HB3 := Aside0.mk (below_step HB2.out hb)
  have HLL := Aside0.mk hcl
  clear hb hcl
  clear HNU hc2
  go_wp2_with (fail)
  have HS : Aside0 (∀ W, Below w3.heap.size w3 W → (convert 25 9 (.slice (some ad) b.length c)).run Try.prog W = .ok (.string (strOfNums b)) W) := by
    have h1 := Kd.C_below HR.out HB3.out
    exact ⟨fun W hW => toStr1 (P := Try.prog) c Try.underlying25 Try.underlying5 Try.underlying9 (Kd.C_below h1 hW)⟩
  have hs1 := HS.out _ (below_drew (Below.refl _ _))
  refine start_ (n := 10) (S := fun w' => (convert 25 9 (.slice (some ad) b.length c)).run Try.prog w' = .ok (.string (strOfNums b)) w') (ds := []) #[false, false, false, false, false, false, false, false, false, false] (by kernel_rfl) rfl rfl (hs1) (fun hHeld => ?_)
  refine pure_ (i := 0) (N := some 52) (v := ?_) (a' := ?_) #[true, false, false, false, false, false, false, false, false, false] rfl rfl (by kernel_rfl) (fun _ _ _ h => h) (Or.inl ⟨by rfl, ?_⟩) ?_ ?_
  rotate_left
  · intro w'
    go_simp
    with_reducible rfl
  rotate_left
  · simp only [Act.put, List.setIfInBounds_toArray, List.set_cons_zero, List.set_cons_succ, i64_w, i32_w]
    rfl
  refine pure_ (i := 1) (N := some 53) (v := ?_) (a' := ?_) #[true, true, false, false, false, false, false, false, false, false] rfl rfl (by kernel_rfl) (fun _ _ _ h => h) (Or.inl ⟨by rfl, ?_⟩) ?_ ?_
  rotate_left
  · intro w'
    go_simp
    with_reducible rfl
  rotate_left
  · simp only [Act.put, List.setIfInBounds_toArray, List.set_cons_zero, List.set_cons_succ, i64_w, i32_w]
    rfl
  refine pure_ (i := 2) (N := some 54) (v := ?_) (a' := ?_) #[true, true, true, false, false, false, false, false, false, false] rfl rfl (by kernel_rfl) (fun _ _ _ h => h) (Or.inl ⟨by rfl, ?_⟩) ?_ ?_
  rotate_left
  · intro w'
    go_simp
    with_reducible rfl
  rotate_left
  · simp only [Act.put, List.setIfInBounds_toArray, List.set_cons_zero, List.set_cons_succ, i64_w, i32_w]
    rfl
  refine pure_ (i := 3) (N := some 55) (v := ?_) (a' := ?_) #[true, true, true, true, false, false, false, false, false, false] rfl rfl (by kernel_rfl) (fun _ _ _ h => h) (Or.inl ⟨by rfl, ?_⟩) ?_ ?_
  rotate_left
  · intro w'
    go_simp
    with_reducible rfl
  rotate_left
  · simp only [Act.put, List.setIfInBounds_toArray, List.set_cons_zero, List.set_cons_succ, i64_w, i32_w]
    rfl
  refine pure_ (i := 6) (N := some 58) (v := ?_) (a' := ?_) #[true, true, true, true, false, false, true, false, false, false] rfl rfl (by kernel_rfl) (fun _ _ _ h => h) (Or.inl ⟨by rfl, ?_⟩) ?_ ?_
  rotate_left
  · intro w'
    go_simp
    with_reducible rfl
  rotate_left
  · simp only [Act.put, List.setIfInBounds_toArray, List.set_cons_zero, List.set_cons_succ, i64_w, i32_w]
    rfl
  refine take_ (i := 7) (N := some 59) (v := ?_) (a' := ?_) #[true, true, true, true, false, false, true, true, false, false] rfl rfl (by kernel_rfl) (fun _ _ _ h => h) (Or.inl ⟨by rfl, ?_⟩) hHeld ?_ ?_
  rotate_left
  · intro w' s0
    go_simp
    with_reducible rfl
  rotate_left
  · simp only [Act.put, List.setIfInBounds_toArray, List.set_cons_zero, List.set_cons_succ, i64_w, i32_w]
    rfl
  refine one_ (i := 4) (N := some 56) #[true, true, true, true, true, false, true, true, false, false] rfl rfl (by kernel_rfl) (by decide) (fun K hK => ?_)
  refine goes_ Try.func19 (by kernel_rfl) rfl #[.slice Al l.length cl] (by rfl) rfl rfl (by simp only [List.map_toArray, List.map_cons, List.map_nil]; rfl) ?_
  refine (refPutT Al cl l _ (Kd.C_drew HLL.out) ll hln HSZ.out).mono ?_
  rintro e w8 ⟨v, rfl, ho, hb2⟩
  refine ⟨_, rfl, ?_⟩
  rw [HP.out] at ho
  obtain ⟨Ab, cb, rfl, lb, ho⟩ := R_C ho
  have s8 := toStr1 (P := Try.prog) cb Try.underlying25 Try.underlying5 Try.underlying9 ho
  have hs1 := HS.out _ (below_step (below_drew (Below.refl _ _)) hb2)
  have HB8 := Aside0.mk (below_step (below_drew HB3.out) hb2)
  have HL8 := Aside0.mk (Kd.C_below (Kd.C_drew HLL.out) hb2)
  clear ho hb2
  refine hK.out _ _ (hs1) (fun hHeld => ?_)
  clear hK K
  refine norm_ (a' := ?_) ?_ ?_
  rotate_left
  · show Act.put _ (some 56) _ = _
    simp only [Act.put, List.setIfInBounds_toArray, List.set_cons_zero, List.set_cons_succ, i64_w, i32_w]
    rfl
  refine one_ (i := 5) (N := some 57) #[true, true, true, true, true, true, true, true, false, false] rfl rfl (by kernel_rfl) (by decide) (fun K hK => ?_)
  refine value_ (w1 := ?_) (v := ?_) (by rfl) rfl ?_ ?_
  rotate_left 2
  · go_simp
    constructor
    · rfl
    · rfl
  refine hK.out _ _ (hs1) (fun hHeld => ?_)
  clear hK K
  refine norm_ (a' := ?_) ?_ ?_
  rotate_left
  · show Act.put _ (some 57) _ = _
    simp only [Act.put, List.setIfInBounds_toArray, List.set_cons_zero, List.set_cons_succ, i64_w, i32_w]
    rfl
  refine pure_ (i := 8) (N := some 60) (v := ?_) (a' := ?_) #[true, true, true, true, true, true, true, true, true, false] rfl rfl (by kernel_rfl) (fun _ _ _ h => h) (Or.inl ⟨by rfl, ?_⟩) ?_ ?_
  rotate_left
  · intro w'
    go_simp
    with_reducible rfl
  rotate_left
  · simp only [Act.put, List.setIfInBounds_toArray, List.set_cons_zero, List.set_cons_succ, i64_w, i32_w]
    rfl
  refine pure_ (i := 9) (N := some 61) (v := ?_) (a' := ?_) #[true, true, true, true, true, true, true, true, true, true] rfl rfl (by kernel_rfl) (fun _ _ _ h => h) (Or.inl ⟨by rfl, ?_⟩) ?_ ?_
  rotate_left
  · intro w'
    go_simp
    with_reducible rfl
  rotate_left
  · simp only [Act.put, List.setIfInBounds_toArray, List.set_cons_zero, List.set_cons_succ, i64_w, i32_w]
    rfl
  refine done_ (by kernel_rfl) ?_
  go_wp2_with (fail)
  go_ret2
  exact ⟨Al, cl, rfl, ll, HL8.out, HB8.out⟩

set_option maxHeartbeats 8000000 in
set_option maxRecDepth 100000 in
theorem way1_some_bad (A : Option Addr) (c : Nat) (b : List Int) (w : World) (hr : Kd.C (Kd.int .u8) w A b.length b) (hc : b.length ≤ c) (hb : Bytes b) (hl : b.length < 1000000000) (n m : Nat) (hv : var b = ((n : Int), (m : Int))) (h0 : m ≠ 0) (hn : n ≤ 2000) (hm : m < b.length) (hway : b.getD m 0 = 1) (x : List ByteArray) (r : List Int) (hE : eachR (b.drop (m + 1)) n = some (x, r)) (hN : numberedR (b.drop (m + 1)) n = none)  :
    Calls Try.prog 15 #[.slice A b.length c] w fun e w' => e = .returned (.tuple #[.slice none 0 0, .int .i64 10]) ∧ Below w.heap.size w w' := by
  have HR := Aside0.mk hr
  have HV := Aside0.mk (fun W h => refVar A c b W h hc hb)
  rw [hv] at HV
  obtain ⟨A2, hcut, h2, l2⟩ := cutFrom (P := Try.prog) 25 5 Try.underlying25 CEach.info_u8 .u8 A c b ((m : Int) + 1) (by omega) (by omega) hc
  rw [show ((m : Int) + 1).toNat = m + 1 from by omega] at hcut h2 l2
  have H2 := Aside0.mk h2
  have HEA := Aside0.mk (fun W h => CRefT.eachC A2 (c - (m + 1)) (b.drop (m + 1)) n W h l2 (hb.drop _) (by rw [List.length_drop]; omega) (by omega))
  rw [hE] at HEA
  have HNU := Aside0.mk (fun W h => numberedC A2 (c - (m + 1)) (b.drop (m + 1)) n W h l2 (hb.drop _) (by rw [List.length_drop]; omega) (by omega))
  rw [hN] at HNU
  clear hN
  obtain ⟨ad, rfl, hcells⟩ := C_cells hr (by omega)
  have HC0 := Aside0.mk (hcells m hm)
  clear hcells
  obtain ⟨k, hk⟩ : ∃ k, b.getD m 0 = k := ⟨_, rfl⟩
  rw [hk] at HC0 hway
  clear hk
  subst hway
  clear hr hb hv hE l2 h2
  generalize b.drop (m + 1) = D at *
  have hp0 : ((m : Int) == 0) = false := beq_eq_false_iff_ne.mpr (by omega)
  have hp0n : (m == 0) = false := beq_eq_false_iff_ne.mpr h0
  have hgt : decide ((2000 : Int) < (n : Int)) = false := decide_eq_false (by omega)
  have hge : decide ((b.length : Int) ≤ (m : Int)) = false := decide_eq_false (by omega)
  have hgen : decide (b.length ≤ m) = false := decide_eq_false (by omega)
  have hmI : (m : Int) < (b.length : Int) := by omega
  go_enter Try.func15, Try.ntmps15
  go_wp2_with (fail)
  refine (HV.out _ HR.out).mono ?_; rintro e w1 ⟨rfl, hb⟩
  have HB1 := Aside0.mk hb
  have HD := Aside0.mk (H2.out _ (Kd.C_below HR.out hb))
  have hc0 := pw_cell_below hb HC0.out
  clear hb HC0 H2 HV
  go_wp2_with (fail)
  refine (HEA.out _ HD.out).mono ?_
  rintro e w2 ⟨Ax, cx, Ar, cr, rfl, lx, lr, hcx, hcr, hb⟩
  simp only at lx lr hcx hcr ⊢
  have HB2 := Aside0.mk (below_step HB1.out hb)
  have HD2 := Aside0.mk (Kd.C_below HD.out hb)
  have HX := Aside0.mk hcx
  have hc2 := pw_cell_below hb hc0
  clear hb HEA hc0 hcx hcr
  go_wp2_with (fail)
  refine (HNU.out _ HD2.out).mono ?_
  rintro e w3 ⟨rfl, hb⟩
  have HB3 := Aside0.mk (below_step HB2.out hb)
  clear hb
  clear HNU hc2
  go_wp2_with (fail)
  refine start_ (n := 10) (S := fun w' => True) (ds := []) #[false, false, false, false, false, false, false, false, false, false] (by kernel_rfl) rfl rfl trivial (fun hHeld => ?_)
  refine pure_ (i := 0) (N := some 52) (v := ?_) (a' := ?_) #[true, false, false, false, false, false, false, false, false, false] rfl rfl (by kernel_rfl) (fun _ _ _ h => h) (Or.inl ⟨by rfl, ?_⟩) ?_ ?_
  rotate_left
  · intro w'
    go_simp
    with_reducible rfl
  rotate_left
  · simp only [Act.put, List.setIfInBounds_toArray, List.set_cons_zero, List.set_cons_succ, i64_w, i32_w]
    rfl
  refine pure_ (i := 1) (N := some 53) (v := ?_) (a' := ?_) #[true, true, false, false, false, false, false, false, false, false] rfl rfl (by kernel_rfl) (fun _ _ _ h => h) (Or.inl ⟨by rfl, ?_⟩) ?_ ?_
  rotate_left
  · intro w'
    go_simp
    with_reducible rfl
  rotate_left
  · simp only [Act.put, List.setIfInBounds_toArray, List.set_cons_zero, List.set_cons_succ, i64_w, i32_w]
    rfl
  refine pure_ (i := 2) (N := some 54) (v := ?_) (a' := ?_) #[true, true, true, false, false, false, false, false, false, false] rfl rfl (by kernel_rfl) (fun _ _ _ h => h) (Or.inl ⟨by rfl, ?_⟩) ?_ ?_
  rotate_left
  · intro w'
    go_simp
    with_reducible rfl
  rotate_left
  · simp only [Act.put, List.setIfInBounds_toArray, List.set_cons_zero, List.set_cons_succ, i64_w, i32_w]
    rfl
  refine pure_ (i := 3) (N := some 55) (v := undef) (a' := ?_) #[true, true, true, true, false, false, false, false, false, false] rfl rfl (by kernel_rfl) (fun _ _ _ h => h) (Or.inr ⟨by rfl, rfl⟩) ?_ ?_
  rotate_left
  · simp only [Act.put, List.setIfInBounds_toArray, List.set_cons_zero, List.set_cons_succ, i64_w, i32_w]
    rfl
  refine pure_ (i := 4) (N := some 56) (v := undef) (a' := ?_) #[true, true, true, true, true, false, false, false, false, false] rfl rfl (by kernel_rfl) (fun _ _ _ h => h) (Or.inr ⟨by rfl, rfl⟩) ?_ ?_
  rotate_left
  · simp only [Act.put, List.setIfInBounds_toArray, List.set_cons_zero, List.set_cons_succ, i64_w, i32_w]
    rfl
  refine pure_ (i := 5) (N := some 57) (v := undef) (a' := ?_) #[true, true, true, true, true, true, false, false, false, false] rfl rfl (by kernel_rfl) (fun _ _ _ h => h) (Or.inr ⟨by rfl, rfl⟩) ?_ ?_
  rotate_left
  · simp only [Act.put, List.setIfInBounds_toArray, List.set_cons_zero, List.set_cons_succ, i64_w, i32_w]
    rfl
  refine pure_ (i := 6) (N := some 58) (v := undef) (a' := ?_) #[true, true, true, true, true, true, true, false, false, false] rfl rfl (by kernel_rfl) (fun _ _ _ h => h) (Or.inr ⟨by rfl, rfl⟩) ?_ ?_
  rotate_left
  · simp only [Act.put, List.setIfInBounds_toArray, List.set_cons_zero, List.set_cons_succ, i64_w, i32_w]
    rfl
  refine pure_ (i := 7) (N := some 59) (v := undef) (a' := ?_) #[true, true, true, true, true, true, true, true, false, false] rfl rfl (by kernel_rfl) (fun _ _ _ h => h) (Or.inr ⟨by rfl, rfl⟩) ?_ ?_
  rotate_left
  · simp only [Act.put, List.setIfInBounds_toArray, List.set_cons_zero, List.set_cons_succ, i64_w, i32_w]
    rfl
  refine pure_ (i := 8) (N := some 60) (v := undef) (a' := ?_) #[true, true, true, true, true, true, true, true, true, false] rfl rfl (by kernel_rfl) (fun _ _ _ h => h) (Or.inr ⟨by rfl, rfl⟩) ?_ ?_
  rotate_left
  · simp only [Act.put, List.setIfInBounds_toArray, List.set_cons_zero, List.set_cons_succ, i64_w, i32_w]
    rfl
  refine pure_ (i := 9) (N := some 61) (v := ?_) (a' := ?_) #[true, true, true, true, true, true, true, true, true, true] rfl rfl (by kernel_rfl) (fun _ _ _ h => h) (Or.inl ⟨by rfl, ?_⟩) ?_ ?_
  rotate_left
  · intro w'
    go_simp
    with_reducible rfl
  rotate_left
  · simp only [Act.put, List.setIfInBounds_toArray, List.set_cons_zero, List.set_cons_succ, i64_w, i32_w]
    rfl
  refine done_ (by kernel_rfl) ?_
  have HB8 := Aside0.mk (below_drew HB3.out)
  go_wp2_with (fail)
  go_ret2
  exact ⟨rfl, HB8.out⟩

set_option maxHeartbeats 8000000 in
set_option maxRecDepth 100000 in
theorem way1_some_other (A : Option Addr) (c : Nat) (b : List Int) (w : World) (hr : Kd.C (Kd.int .u8) w A b.length b) (hc : b.length ≤ c) (hb : Bytes b) (hl : b.length < 1000000000) (n m : Nat) (hv : var b = ((n : Int), (m : Int))) (h0 : m ≠ 0) (hn : n ≤ 2000) (hm : m < b.length) (hway : b.getD m 0 = 1) (x : List ByteArray) (r : List Int) (hE : eachR (b.drop (m + 1)) n = some (x, r)) (l : List ByteArray) (r2 : List Int) (hN : numberedR (b.drop (m + 1)) n = some (l, r2)) (hln : l.length ≤ 2000) (hsz : ∀ s ∈ l, s.size ≤ 1000) (hput : put l ≠ b) :
    Calls Try.prog 15 #[.slice A b.length c] w fun e w' => e = .returned (.tuple #[.slice none 0 0, .int .i64 10]) ∧ Below w.heap.size w w' := by
  have HR := Aside0.mk hr
  have HV := Aside0.mk (fun W h => refVar A c b W h hc hb)
  rw [hv] at HV
  obtain ⟨A2, hcut, h2, l2⟩ := cutFrom (P := Try.prog) 25 5 Try.underlying25 CEach.info_u8 .u8 A c b ((m : Int) + 1) (by omega) (by omega) hc
  rw [show ((m : Int) + 1).toNat = m + 1 from by omega] at hcut h2 l2
  have H2 := Aside0.mk h2
  have HEA := Aside0.mk (fun W h => CRefT.eachC A2 (c - (m + 1)) (b.drop (m + 1)) n W h l2 (hb.drop _) (by rw [List.length_drop]; omega) (by omega))
  rw [hE] at HEA
  have HNU := Aside0.mk (fun W h => numberedC A2 (c - (m + 1)) (b.drop (m + 1)) n W h l2 (hb.drop _) (by rw [List.length_drop]; omega) (by omega))
  rw [hN] at HNU
  clear hN
  obtain ⟨ad, rfl, hcells⟩ := C_cells hr (by omega)
  have HC0 := Aside0.mk (hcells m hm)
  clear hcells
  obtain ⟨k, hk⟩ : ∃ k, b.getD m 0 = k := ⟨_, rfl⟩
  rw [hk] at HC0 hway
  clear hk
  subst hway
  have hne : Aside0 (((strOfNums (put l)).toList == (strOfNums b).toList) = false) := ⟨by rw [beq_eq_false_iff_ne]; exact fun h => hput (str_inj (put_Bytes _) hb h)⟩
  have hne2 : Aside0 (((strOfNums (put l)).toList != (strOfNums b).toList) = true) := ⟨by rw [bne, hne.out]; rfl⟩
  clear hput
  have HSZ := Aside0.mk hsz
  clear hsz
  clear hr hb hv hE l2 h2
  generalize b.drop (m + 1) = D at *
  have hp0 : ((m : Int) == 0) = false := beq_eq_false_iff_ne.mpr (by omega)
  have hp0n : (m == 0) = false := beq_eq_false_iff_ne.mpr h0
  have hgt : decide ((2000 : Int) < (n : Int)) = false := decide_eq_false (by omega)
  have hge : decide ((b.length : Int) ≤ (m : Int)) = false := decide_eq_false (by omega)
  have hgen : decide (b.length ≤ m) = false := decide_eq_false (by omega)
  have hmI : (m : Int) < (b.length : Int) := by omega
  go_enter Try.func15, Try.ntmps15
  go_wp2_with (fail)
  refine (HV.out _ HR.out).mono ?_; rintro e w1 ⟨rfl, hb⟩
  have HB1 := Aside0.mk hb
  have HD := Aside0.mk (H2.out _ (Kd.C_below HR.out hb))
  have hc0 := pw_cell_below hb HC0.out
  clear hb HC0 H2 HV
  go_wp2_with (fail)
  refine (HEA.out _ HD.out).mono ?_
  rintro e w2 ⟨Ax, cx, Ar, cr, rfl, lx, lr, hcx, hcr, hb⟩
  simp only at lx lr hcx hcr ⊢
  have HB2 := Aside0.mk (below_step HB1.out hb)
  have HD2 := Aside0.mk (Kd.C_below HD.out hb)
  have HX := Aside0.mk hcx
  have hc2 := pw_cell_below hb hc0
  clear hb HEA hc0 hcx hcr
  go_wp2_with (fail)
  refine (HNU.out _ HD2.out).mono ?_
  rintro e w3 ⟨Al, cl, rfl, ll, hcl, hb⟩
  simp only at ll hcl ⊢
  have HB3 := Aside0.mk (below_step HB2.out hb)
  have HLL := Aside0.mk hcl
  clear hb hcl
  clear HNU hc2
  go_wp2_with (fail)
  have HS : Aside0 (∀ W, Below w3.heap.size w3 W → (convert 25 9 (.slice (some ad) b.length c)).run Try.prog W = .ok (.string (strOfNums b)) W) := by
    have h1 := Kd.C_below HR.out HB3.out
    exact ⟨fun W hW => toStr1 (P := Try.prog) c Try.underlying25 Try.underlying5 Try.underlying9 (Kd.C_below h1 hW)⟩
  have hs1 := HS.out _ (below_drew (Below.refl _ _))
  have hnee := hne.out
  have hnee2 := hne2.out
  refine start_ (n := 10) (S := fun w' => (convert 25 9 (.slice (some ad) b.length c)).run Try.prog w' = .ok (.string (strOfNums b)) w') (ds := []) #[false, false, false, false, false, false, false, false, false, false] (by kernel_rfl) rfl rfl (hs1) (fun hHeld => ?_)
  refine pure_ (i := 0) (N := some 52) (v := ?_) (a' := ?_) #[true, false, false, false, false, false, false, false, false, false] rfl rfl (by kernel_rfl) (fun _ _ _ h => h) (Or.inl ⟨by rfl, ?_⟩) ?_ ?_
  rotate_left
  · intro w'
    go_simp
    with_reducible rfl
  rotate_left
  · simp only [Act.put, List.setIfInBounds_toArray, List.set_cons_zero, List.set_cons_succ, i64_w, i32_w]
    rfl
  refine pure_ (i := 1) (N := some 53) (v := ?_) (a' := ?_) #[true, true, false, false, false, false, false, false, false, false] rfl rfl (by kernel_rfl) (fun _ _ _ h => h) (Or.inl ⟨by rfl, ?_⟩) ?_ ?_
  rotate_left
  · intro w'
    go_simp
    with_reducible rfl
  rotate_left
  · simp only [Act.put, List.setIfInBounds_toArray, List.set_cons_zero, List.set_cons_succ, i64_w, i32_w]
    rfl
  refine pure_ (i := 2) (N := some 54) (v := ?_) (a' := ?_) #[true, true, true, false, false, false, false, false, false, false] rfl rfl (by kernel_rfl) (fun _ _ _ h => h) (Or.inl ⟨by rfl, ?_⟩) ?_ ?_
  rotate_left
  · intro w'
    go_simp
    with_reducible rfl
  rotate_left
  · simp only [Act.put, List.setIfInBounds_toArray, List.set_cons_zero, List.set_cons_succ, i64_w, i32_w]
    rfl
  refine pure_ (i := 3) (N := some 55) (v := ?_) (a' := ?_) #[true, true, true, true, false, false, false, false, false, false] rfl rfl (by kernel_rfl) (fun _ _ _ h => h) (Or.inl ⟨by rfl, ?_⟩) ?_ ?_
  rotate_left
  · intro w'
    go_simp
    with_reducible rfl
  rotate_left
  · simp only [Act.put, List.setIfInBounds_toArray, List.set_cons_zero, List.set_cons_succ, i64_w, i32_w]
    rfl
  refine pure_ (i := 6) (N := some 58) (v := ?_) (a' := ?_) #[true, true, true, true, false, false, true, false, false, false] rfl rfl (by kernel_rfl) (fun _ _ _ h => h) (Or.inl ⟨by rfl, ?_⟩) ?_ ?_
  rotate_left
  · intro w'
    go_simp
    with_reducible rfl
  rotate_left
  · simp only [Act.put, List.setIfInBounds_toArray, List.set_cons_zero, List.set_cons_succ, i64_w, i32_w]
    rfl
  refine take_ (i := 7) (N := some 59) (v := ?_) (a' := ?_) #[true, true, true, true, false, false, true, true, false, false] rfl rfl (by kernel_rfl) (fun _ _ _ h => h) (Or.inl ⟨by rfl, ?_⟩) hHeld ?_ ?_
  rotate_left
  · intro w' s0
    go_simp
    with_reducible rfl
  rotate_left
  · simp only [Act.put, List.setIfInBounds_toArray, List.set_cons_zero, List.set_cons_succ, i64_w, i32_w]
    rfl
  refine one_ (i := 4) (N := some 56) #[true, true, true, true, true, false, true, true, false, false] rfl rfl (by kernel_rfl) (by decide) (fun K hK => ?_)
  refine goes_ Try.func19 (by kernel_rfl) rfl #[.slice Al l.length cl] (by rfl) rfl rfl (by simp only [List.map_toArray, List.map_cons, List.map_nil]; rfl) ?_
  refine (refPutT Al cl l _ (Kd.C_drew HLL.out) ll hln HSZ.out).mono ?_
  rintro e w8 ⟨v, rfl, ho, hb2⟩
  refine ⟨_, rfl, ?_⟩
  obtain ⟨Ab, cb, rfl, lb, ho⟩ := R_C ho
  have s8 := toStr1 (P := Try.prog) cb Try.underlying25 Try.underlying5 Try.underlying9 ho
  have hs1 := HS.out _ (below_step (below_drew (Below.refl _ _)) hb2)
  have HB8 := Aside0.mk (below_step (below_drew HB3.out) hb2)
  have HL8 := Aside0.mk (Kd.C_below (Kd.C_drew HLL.out) hb2)
  clear ho hb2
  refine hK.out _ _ (hs1) (fun hHeld => ?_)
  clear hK K
  refine norm_ (a' := ?_) ?_ ?_
  rotate_left
  · show Act.put _ (some 56) _ = _
    simp only [Act.put, List.setIfInBounds_toArray, List.set_cons_zero, List.set_cons_succ, i64_w, i32_w]
    rfl
  refine one_ (i := 5) (N := some 57) #[true, true, true, true, true, true, true, true, false, false] rfl rfl (by kernel_rfl) (by decide) (fun K hK => ?_)
  refine value_ (w1 := ?_) (v := ?_) (by rfl) rfl ?_ ?_
  rotate_left 2
  · go_simp
    constructor
    · rfl
    · rfl
  refine hK.out _ _ (hs1) (fun hHeld => ?_)
  clear hK K
  refine norm_ (a' := ?_) ?_ ?_
  rotate_left
  · show Act.put _ (some 57) _ = _
    simp only [Act.put, List.setIfInBounds_toArray, List.set_cons_zero, List.set_cons_succ, i64_w, i32_w]
    rfl
  refine pure_ (i := 8) (N := some 60) (v := ?_) (a' := ?_) #[true, true, true, true, true, true, true, true, true, false] rfl rfl (by kernel_rfl) (fun _ _ _ h => h) (Or.inl ⟨by rfl, ?_⟩) ?_ ?_
  rotate_left
  · intro w'
    go_simp
    with_reducible rfl
  rotate_left
  · simp only [Act.put, List.setIfInBounds_toArray, List.set_cons_zero, List.set_cons_succ, i64_w, i32_w]
    rfl
  refine pure_ (i := 9) (N := some 61) (v := ?_) (a' := ?_) #[true, true, true, true, true, true, true, true, true, true] rfl rfl (by kernel_rfl) (fun _ _ _ h => h) (Or.inl ⟨by rfl, ?_⟩) ?_ ?_
  rotate_left
  · intro w'
    go_simp
    with_reducible rfl
  rotate_left
  · simp only [Act.put, List.setIfInBounds_toArray, List.set_cons_zero, List.set_cons_succ, i64_w, i32_w]
    rfl
  refine done_ (by kernel_rfl) ?_
  go_wp2_with (fail)
  go_ret2
  exact ⟨rfl, HB8.out⟩

set_option maxHeartbeats 8000000 in
set_option maxRecDepth 100000 in
theorem way1_some_good (A : Option Addr) (c : Nat) (b : List Int) (w : World) (hr : Kd.C (Kd.int .u8) w A b.length b) (hc : b.length ≤ c) (hb : Bytes b) (hl : b.length < 1000000000) (n m : Nat) (hv : var b = ((n : Int), (m : Int))) (h0 : m ≠ 0) (hn : n ≤ 2000) (hm : m < b.length) (hway : b.getD m 0 = 1) (x : List ByteArray) (r : List Int) (hE : eachR (b.drop (m + 1)) n = some (x, r)) (l : List ByteArray) (r2 : List Int) (hN : numberedR (b.drop (m + 1)) n = some (l, r2)) (hln : l.length ≤ 2000) (hsz : ∀ s ∈ l, s.size ≤ 1000) (hput : put l = b) :
    Calls Try.prog 15 #[.slice A b.length c] w fun e w' => ∃ A' c', e = .returned (.tuple #[.slice A' l.length c', .int .i64 0]) ∧ l.length ≤ c' ∧ Kd.C Kd.string w' A' l.length l ∧ Below w.heap.size w w' := by
  have HR := Aside0.mk hr
  have HV := Aside0.mk (fun W h => refVar A c b W h hc hb)
  rw [hv] at HV
  obtain ⟨A2, hcut, h2, l2⟩ := cutFrom (P := Try.prog) 25 5 Try.underlying25 CEach.info_u8 .u8 A c b ((m : Int) + 1) (by omega) (by omega) hc
  rw [show ((m : Int) + 1).toNat = m + 1 from by omega] at hcut h2 l2
  have H2 := Aside0.mk h2
  have HEA := Aside0.mk (fun W h => CRefT.eachC A2 (c - (m + 1)) (b.drop (m + 1)) n W h l2 (hb.drop _) (by rw [List.length_drop]; omega) (by omega))
  rw [hE] at HEA
  have HNU := Aside0.mk (fun W h => numberedC A2 (c - (m + 1)) (b.drop (m + 1)) n W h l2 (hb.drop _) (by rw [List.length_drop]; omega) (by omega))
  rw [hN] at HNU
  clear hN
  obtain ⟨ad, rfl, hcells⟩ := C_cells hr (by omega)
  have HC0 := Aside0.mk (hcells m hm)
  clear hcells
  obtain ⟨k, hk⟩ : ∃ k, b.getD m 0 = k := ⟨_, rfl⟩
  rw [hk] at HC0 hway
  clear hk
  subst hway
  have HP := Aside0.mk hput
  clear hput
  have HSZ := Aside0.mk hsz
  clear hsz
  clear hr hb hv hE l2 h2
  generalize b.drop (m + 1) = D at *
  have hp0 : ((m : Int) == 0) = false := beq_eq_false_iff_ne.mpr (by omega)
  have hp0n : (m == 0) = false := beq_eq_false_iff_ne.mpr h0
  have hgt : decide ((2000 : Int) < (n : Int)) = false := decide_eq_false (by omega)
  have hge : decide ((b.length : Int) ≤ (m : Int)) = false := decide_eq_false (by omega)
  have hgen : decide (b.length ≤ m) = false := decide_eq_false (by omega)
  have hmI : (m : Int) < (b.length : Int) := by omega
  go_enter Try.func15, Try.ntmps15
  go_wp2_with (fail)
  refine (HV.out _ HR.out).mono ?_; rintro e w1 ⟨rfl, hb⟩
  have HB1 := Aside0.mk hb
  have HD := Aside0.mk (H2.out _ (Kd.C_below HR.out hb))
  have hc0 := pw_cell_below hb HC0.out
  clear hb HC0 H2 HV
  go_wp2_with (fail)
  refine (HEA.out _ HD.out).mono ?_
  rintro e w2 ⟨Ax, cx, Ar, cr, rfl, lx, lr, hcx, hcr, hb⟩
  simp only at lx lr hcx hcr ⊢
  have HB2 := Aside0.mk (below_step HB1.out hb)
  have HD2 := Aside0.mk (Kd.C_below HD.out hb)
  have HX := Aside0.mk hcx
  have hc2 := pw_cell_below hb hc0
  clear hb HEA hc0 hcx hcr
  go_wp2_with (fail)
  refine (HNU.out _ HD2.out).mono ?_
  rintro e w3 ⟨Al, cl, rfl, ll, hcl, hb⟩
  simp only at ll hcl ⊢
  have HB3 := Aside0.mk (below_step HB2.out hb)
  have HLL := Aside0.mk hcl
  clear hb hcl
  clear HNU hc2
  go_wp2_with (fail)
  have HS : Aside0 (∀ W, Below w3.heap.size w3 W → (convert 25 9 (.slice (some ad) b.length c)).run Try.prog W = .ok (.string (strOfNums b)) W) := by
    have h1 := Kd.C_below HR.out HB3.out
    exact ⟨fun W hW => toStr1 (P := Try.prog) c Try.underlying25 Try.underlying5 Try.underlying9 (Kd.C_below h1 hW)⟩
  have hs1 := HS.out _ (below_drew (Below.refl _ _))
  refine start_ (n := 10) (S := fun w' => (convert 25 9 (.slice (some ad) b.length c)).run Try.prog w' = .ok (.string (strOfNums b)) w') (ds := []) #[false, false, false, false, false, false, false, false, false, false] (by kernel_rfl) rfl rfl (hs1) (fun hHeld => ?_)
  refine pure_ (i := 0) (N := some 52) (v := ?_) (a' := ?_) #[true, false, false, false, false, false, false, false, false, false] rfl rfl (by kernel_rfl) (fun _ _ _ h => h) (Or.inl ⟨by rfl, ?_⟩) ?_ ?_
  rotate_left
  · intro w'
    go_simp
    with_reducible rfl
  rotate_left
  · simp only [Act.put, List.setIfInBounds_toArray, List.set_cons_zero, List.set_cons_succ, i64_w, i32_w]
    rfl
  refine pure_ (i := 1) (N := some 53) (v := ?_) (a' := ?_) #[true, true, false, false, false, false, false, false, false, false] rfl rfl (by kernel_rfl) (fun _ _ _ h => h) (Or.inl ⟨by rfl, ?_⟩) ?_ ?_
  rotate_left
  · intro w'
    go_simp
    with_reducible rfl
  rotate_left
  · simp only [Act.put, List.setIfInBounds_toArray, List.set_cons_zero, List.set_cons_succ, i64_w, i32_w]
    rfl
  refine pure_ (i := 2) (N := some 54) (v := ?_) (a' := ?_) #[true, true, true, false, false, false, false, false, false, false] rfl rfl (by kernel_rfl) (fun _ _ _ h => h) (Or.inl ⟨by rfl, ?_⟩) ?_ ?_
  rotate_left
  · intro w'
    go_simp
    with_reducible rfl
  rotate_left
  · simp only [Act.put, List.setIfInBounds_toArray, List.set_cons_zero, List.set_cons_succ, i64_w, i32_w]
    rfl
  refine pure_ (i := 3) (N := some 55) (v := ?_) (a' := ?_) #[true, true, true, true, false, false, false, false, false, false] rfl rfl (by kernel_rfl) (fun _ _ _ h => h) (Or.inl ⟨by rfl, ?_⟩) ?_ ?_
  rotate_left
  · intro w'
    go_simp
    with_reducible rfl
  rotate_left
  · simp only [Act.put, List.setIfInBounds_toArray, List.set_cons_zero, List.set_cons_succ, i64_w, i32_w]
    rfl
  refine pure_ (i := 6) (N := some 58) (v := ?_) (a' := ?_) #[true, true, true, true, false, false, true, false, false, false] rfl rfl (by kernel_rfl) (fun _ _ _ h => h) (Or.inl ⟨by rfl, ?_⟩) ?_ ?_
  rotate_left
  · intro w'
    go_simp
    with_reducible rfl
  rotate_left
  · simp only [Act.put, List.setIfInBounds_toArray, List.set_cons_zero, List.set_cons_succ, i64_w, i32_w]
    rfl
  refine take_ (i := 7) (N := some 59) (v := ?_) (a' := ?_) #[true, true, true, true, false, false, true, true, false, false] rfl rfl (by kernel_rfl) (fun _ _ _ h => h) (Or.inl ⟨by rfl, ?_⟩) hHeld ?_ ?_
  rotate_left
  · intro w' s0
    go_simp
    with_reducible rfl
  rotate_left
  · simp only [Act.put, List.setIfInBounds_toArray, List.set_cons_zero, List.set_cons_succ, i64_w, i32_w]
    rfl
  refine one_ (i := 4) (N := some 56) #[true, true, true, true, true, false, true, true, false, false] rfl rfl (by kernel_rfl) (by decide) (fun K hK => ?_)
  refine goes_ Try.func19 (by kernel_rfl) rfl #[.slice Al l.length cl] (by rfl) rfl rfl (by simp only [List.map_toArray, List.map_cons, List.map_nil]; rfl) ?_
  refine (refPutT Al cl l _ (Kd.C_drew HLL.out) ll hln HSZ.out).mono ?_
  rintro e w8 ⟨v, rfl, ho, hb2⟩
  refine ⟨_, rfl, ?_⟩
  rw [HP.out] at ho
  obtain ⟨Ab, cb, rfl, lb, ho⟩ := R_C ho
  have s8 := toStr1 (P := Try.prog) cb Try.underlying25 Try.underlying5 Try.underlying9 ho
  have hs1 := HS.out _ (below_step (below_drew (Below.refl _ _)) hb2)
  have HB8 := Aside0.mk (below_step (below_drew HB3.out) hb2)
  have HL8 := Aside0.mk (Kd.C_below (Kd.C_drew HLL.out) hb2)
  clear ho hb2
  refine hK.out _ _ (hs1) (fun hHeld => ?_)
  clear hK K
  refine norm_ (a' := ?_) ?_ ?_
  rotate_left
  · show Act.put _ (some 56) _ = _
    simp only [Act.put, List.setIfInBounds_toArray, List.set_cons_zero, List.set_cons_succ, i64_w, i32_w]
    rfl
  refine one_ (i := 5) (N := some 57) #[true, true, true, true, true, true, true, true, false, false] rfl rfl (by kernel_rfl) (by decide) (fun K hK => ?_)
  refine value_ (w1 := ?_) (v := ?_) (by rfl) rfl ?_ ?_
  rotate_left 2
  · go_simp
    constructor
    · rfl
    · rfl
  refine hK.out _ _ (hs1) (fun hHeld => ?_)
  clear hK K
  refine norm_ (a' := ?_) ?_ ?_
  rotate_left
  · show Act.put _ (some 57) _ = _
    simp only [Act.put, List.setIfInBounds_toArray, List.set_cons_zero, List.set_cons_succ, i64_w, i32_w]
    rfl
  refine pure_ (i := 8) (N := some 60) (v := ?_) (a' := ?_) #[true, true, true, true, true, true, true, true, true, false] rfl rfl (by kernel_rfl) (fun _ _ _ h => h) (Or.inl ⟨by rfl, ?_⟩) ?_ ?_
  rotate_left
  · intro w'
    go_simp
    with_reducible rfl
  rotate_left
  · simp only [Act.put, List.setIfInBounds_toArray, List.set_cons_zero, List.set_cons_succ, i64_w, i32_w]
    rfl
  refine pure_ (i := 9) (N := some 61) (v := ?_) (a' := ?_) #[true, true, true, true, true, true, true, true, true, true] rfl rfl (by kernel_rfl) (fun _ _ _ h => h) (Or.inl ⟨by rfl, ?_⟩) ?_ ?_
  rotate_left
  · intro w'
    go_simp
    with_reducible rfl
  rotate_left
  · simp only [Act.put, List.setIfInBounds_toArray, List.set_cons_zero, List.set_cons_succ, i64_w, i32_w]
    rfl
  refine done_ (by kernel_rfl) ?_
  go_wp2_with (fail)
  go_ret2
  exact ⟨Al, cl, rfl, ll, HL8.out, HB8.out⟩

set_option maxHeartbeats 8000000 in
set_option maxRecDepth 100000 in
theorem way0_none_bad (A : Option Addr) (c : Nat) (b : List Int) (w : World) (hr : Kd.C (Kd.int .u8) w A b.length b) (hc : b.length ≤ c) (hb : Bytes b) (hl : b.length < 1000000000) (n m : Nat) (hv : var b = ((n : Int), (m : Int))) (h0 : m ≠ 0) (hn : n ≤ 2000) (hm : m < b.length) (hway : b.getD m 0 ≠ 1) (hE : eachR (b.drop (m + 1)) n = none)  :
    Calls Try.prog 15 #[.slice A b.length c] w fun e w' => e = .returned (.tuple #[.slice none 0 0, .int .i64 10]) ∧ Below w.heap.size w w' := by
  have HR := Aside0.mk hr
  have HV := Aside0.mk (fun W h => refVar A c b W h hc hb)
  rw [hv] at HV
  obtain ⟨A2, hcut, h2, l2⟩ := cutFrom (P := Try.prog) 25 5 Try.underlying25 CEach.info_u8 .u8 A c b ((m : Int) + 1) (by omega) (by omega) hc
  rw [show ((m : Int) + 1).toNat = m + 1 from by omega] at hcut h2 l2
  have H2 := Aside0.mk h2
  have HEA := Aside0.mk (fun W h => CRefT.eachC A2 (c - (m + 1)) (b.drop (m + 1)) n W h l2 (hb.drop _) (by rw [List.length_drop]; omega) (by omega))
  rw [hE] at HEA
  obtain ⟨ad, rfl, hcells⟩ := C_cells hr (by omega)
  have HC0 := Aside0.mk (hcells m hm)
  clear hcells
  obtain ⟨k, hk⟩ : ∃ k, b.getD m 0 = k := ⟨_, rfl⟩
  rw [hk] at HC0 hway
  clear hk
  have hway1 : (k == 1) = false := beq_eq_false_iff_ne.mpr hway
  clear hway
  clear hr hb hv hE l2 h2
  generalize b.drop (m + 1) = D at *
  have hp0 : ((m : Int) == 0) = false := beq_eq_false_iff_ne.mpr (by omega)
  have hp0n : (m == 0) = false := beq_eq_false_iff_ne.mpr h0
  have hgt : decide ((2000 : Int) < (n : Int)) = false := decide_eq_false (by omega)
  have hge : decide ((b.length : Int) ≤ (m : Int)) = false := decide_eq_false (by omega)
  have hgen : decide (b.length ≤ m) = false := decide_eq_false (by omega)
  have hmI : (m : Int) < (b.length : Int) := by omega
  go_enter Try.func15, Try.ntmps15
  go_wp2_with (fail)
  refine (HV.out _ HR.out).mono ?_; rintro e w1 ⟨rfl, hb⟩
  have HB1 := Aside0.mk hb
  have HD := Aside0.mk (H2.out _ (Kd.C_below HR.out hb))
  have hc0 := pw_cell_below hb HC0.out
  clear hb HC0 H2 HV
  go_wp2_with (fail)
  refine (HEA.out _ HD.out).mono ?_
  rintro e w2 ⟨rfl, hb⟩
  have HB2 := Aside0.mk (below_step HB1.out hb)
  have HD2 := Aside0.mk (Kd.C_below HD.out hb)
  have hc2 := pw_cell_below hb hc0
  clear hb HEA hc0
  go_wp2_with (fail)
  clear hc2
  have HB3 := HB2
  refine start_ (n := 10) (S := fun w' => True) (ds := []) #[false, false, false, false, false, false, false, false, false, false] (by kernel_rfl) rfl rfl trivial (fun hHeld => ?_)
  refine pure_ (i := 0) (N := some 52) (v := ?_) (a' := ?_) #[true, false, false, false, false, false, false, false, false, false] rfl rfl (by kernel_rfl) (fun _ _ _ h => h) (Or.inl ⟨by rfl, ?_⟩) ?_ ?_
  rotate_left
  · intro w'
    go_simp
    with_reducible rfl
  rotate_left
  · simp only [Act.put, List.setIfInBounds_toArray, List.set_cons_zero, List.set_cons_succ, i64_w, i32_w]
    rfl
  refine pure_ (i := 1) (N := some 53) (v := ?_) (a' := ?_) #[true, true, false, false, false, false, false, false, false, false] rfl rfl (by kernel_rfl) (fun _ _ _ h => h) (Or.inl ⟨by rfl, ?_⟩) ?_ ?_
  rotate_left
  · intro w'
    go_simp
    with_reducible rfl
  rotate_left
  · simp only [Act.put, List.setIfInBounds_toArray, List.set_cons_zero, List.set_cons_succ, i64_w, i32_w]
    rfl
  refine pure_ (i := 2) (N := some 54) (v := ?_) (a' := ?_) #[true, true, true, false, false, false, false, false, false, false] rfl rfl (by kernel_rfl) (fun _ _ _ h => h) (Or.inl ⟨by rfl, ?_⟩) ?_ ?_
  rotate_left
  · intro w'
    go_simp
    with_reducible rfl
  rotate_left
  · simp only [Act.put, List.setIfInBounds_toArray, List.set_cons_zero, List.set_cons_succ, i64_w, i32_w]
    rfl
  refine pure_ (i := 3) (N := some 55) (v := undef) (a' := ?_) #[true, true, true, true, false, false, false, false, false, false] rfl rfl (by kernel_rfl) (fun _ _ _ h => h) (Or.inr ⟨by rfl, rfl⟩) ?_ ?_
  rotate_left
  · simp only [Act.put, List.setIfInBounds_toArray, List.set_cons_zero, List.set_cons_succ, i64_w, i32_w]
    rfl
  refine pure_ (i := 4) (N := some 56) (v := undef) (a' := ?_) #[true, true, true, true, true, false, false, false, false, false] rfl rfl (by kernel_rfl) (fun _ _ _ h => h) (Or.inr ⟨by rfl, rfl⟩) ?_ ?_
  rotate_left
  · simp only [Act.put, List.setIfInBounds_toArray, List.set_cons_zero, List.set_cons_succ, i64_w, i32_w]
    rfl
  refine pure_ (i := 5) (N := some 57) (v := undef) (a' := ?_) #[true, true, true, true, true, true, false, false, false, false] rfl rfl (by kernel_rfl) (fun _ _ _ h => h) (Or.inr ⟨by rfl, rfl⟩) ?_ ?_
  rotate_left
  · simp only [Act.put, List.setIfInBounds_toArray, List.set_cons_zero, List.set_cons_succ, i64_w, i32_w]
    rfl
  refine pure_ (i := 6) (N := some 58) (v := undef) (a' := ?_) #[true, true, true, true, true, true, true, false, false, false] rfl rfl (by kernel_rfl) (fun _ _ _ h => h) (Or.inr ⟨by rfl, rfl⟩) ?_ ?_
  rotate_left
  · simp only [Act.put, List.setIfInBounds_toArray, List.set_cons_zero, List.set_cons_succ, i64_w, i32_w]
    rfl
  refine pure_ (i := 7) (N := some 59) (v := undef) (a' := ?_) #[true, true, true, true, true, true, true, true, false, false] rfl rfl (by kernel_rfl) (fun _ _ _ h => h) (Or.inr ⟨by rfl, rfl⟩) ?_ ?_
  rotate_left
  · simp only [Act.put, List.setIfInBounds_toArray, List.set_cons_zero, List.set_cons_succ, i64_w, i32_w]
    rfl
  refine pure_ (i := 8) (N := some 60) (v := undef) (a' := ?_) #[true, true, true, true, true, true, true, true, true, false] rfl rfl (by kernel_rfl) (fun _ _ _ h => h) (Or.inr ⟨by rfl, rfl⟩) ?_ ?_
  rotate_left
  · simp only [Act.put, List.setIfInBounds_toArray, List.set_cons_zero, List.set_cons_succ, i64_w, i32_w]
    rfl
  refine pure_ (i := 9) (N := some 61) (v := ?_) (a' := ?_) #[true, true, true, true, true, true, true, true, true, true] rfl rfl (by kernel_rfl) (fun _ _ _ h => h) (Or.inl ⟨by rfl, ?_⟩) ?_ ?_
  rotate_left
  · intro w'
    go_simp
    with_reducible rfl
  rotate_left
  · simp only [Act.put, List.setIfInBounds_toArray, List.set_cons_zero, List.set_cons_succ, i64_w, i32_w]
    rfl
  refine done_ (by kernel_rfl) ?_
  have HB8 := Aside0.mk (below_drew HB3.out)
  go_wp2_with (fail)
  go_ret2
  exact ⟨rfl, HB8.out⟩

set_option maxHeartbeats 8000000 in
set_option maxRecDepth 100000 in
theorem way0_some_other (A : Option Addr) (c : Nat) (b : List Int) (w : World) (hr : Kd.C (Kd.int .u8) w A b.length b) (hc : b.length ≤ c) (hb : Bytes b) (hl : b.length < 1000000000) (n m : Nat) (hv : var b = ((n : Int), (m : Int))) (h0 : m ≠ 0) (hn : n ≤ 2000) (hm : m < b.length) (hway : b.getD m 0 ≠ 1) (x : List ByteArray) (r : List Int) (hE : eachR (b.drop (m + 1)) n = some (x, r)) (l : List ByteArray) (hxl : x = l) (hln : l.length ≤ 2000) (hsz : ∀ s ∈ l, s.size ≤ 1000) (hput : put l ≠ b) :
    Calls Try.prog 15 #[.slice A b.length c] w fun e w' => e = .returned (.tuple #[.slice none 0 0, .int .i64 10]) ∧ Below w.heap.size w w' := by
  subst hxl
  have HR := Aside0.mk hr
  have HV := Aside0.mk (fun W h => refVar A c b W h hc hb)
  rw [hv] at HV
  obtain ⟨A2, hcut, h2, l2⟩ := cutFrom (P := Try.prog) 25 5 Try.underlying25 CEach.info_u8 .u8 A c b ((m : Int) + 1) (by omega) (by omega) hc
  rw [show ((m : Int) + 1).toNat = m + 1 from by omega] at hcut h2 l2
  have H2 := Aside0.mk h2
  have HEA := Aside0.mk (fun W h => CRefT.eachC A2 (c - (m + 1)) (b.drop (m + 1)) n W h l2 (hb.drop _) (by rw [List.length_drop]; omega) (by omega))
  rw [hE] at HEA
  obtain ⟨ad, rfl, hcells⟩ := C_cells hr (by omega)
  have HC0 := Aside0.mk (hcells m hm)
  clear hcells
  obtain ⟨k, hk⟩ : ∃ k, b.getD m 0 = k := ⟨_, rfl⟩
  rw [hk] at HC0 hway
  clear hk
  have hway1 : (k == 1) = false := beq_eq_false_iff_ne.mpr hway
  clear hway
  have hne : Aside0 (((strOfNums (put x)).toList == (strOfNums b).toList) = false) := ⟨by rw [beq_eq_false_iff_ne]; exact fun h => hput (str_inj (put_Bytes _) hb h)⟩
  have hne2 : Aside0 (((strOfNums (put x)).toList != (strOfNums b).toList) = true) := ⟨by rw [bne, hne.out]; rfl⟩
  clear hput
  have HSZ := Aside0.mk hsz
  clear hsz
  clear hr hb hv hE l2 h2
  generalize b.drop (m + 1) = D at *
  have hp0 : ((m : Int) == 0) = false := beq_eq_false_iff_ne.mpr (by omega)
  have hp0n : (m == 0) = false := beq_eq_false_iff_ne.mpr h0
  have hgt : decide ((2000 : Int) < (n : Int)) = false := decide_eq_false (by omega)
  have hge : decide ((b.length : Int) ≤ (m : Int)) = false := decide_eq_false (by omega)
  have hgen : decide (b.length ≤ m) = false := decide_eq_false (by omega)
  have hmI : (m : Int) < (b.length : Int) := by omega
  go_enter Try.func15, Try.ntmps15
  go_wp2_with (fail)
  refine (HV.out _ HR.out).mono ?_; rintro e w1 ⟨rfl, hb⟩
  have HB1 := Aside0.mk hb
  have HD := Aside0.mk (H2.out _ (Kd.C_below HR.out hb))
  have hc0 := pw_cell_below hb HC0.out
  clear hb HC0 H2 HV
  go_wp2_with (fail)
  refine (HEA.out _ HD.out).mono ?_
  rintro e w2 ⟨Ax, cx, Ar, cr, rfl, lx, lr, hcx, hcr, hb⟩
  simp only at lx lr hcx hcr ⊢
  have HB2 := Aside0.mk (below_step HB1.out hb)
  have HD2 := Aside0.mk (Kd.C_below HD.out hb)
  have HX := Aside0.mk hcx
  have hc2 := pw_cell_below hb hc0
  clear hb HEA hc0 hcx hcr
  go_wp2_with (fail)
  clear hc2
  have HB3 := HB2
  have HS : Aside0 (∀ W, Below w2.heap.size w2 W → (convert 25 9 (.slice (some ad) b.length c)).run Try.prog W = .ok (.string (strOfNums b)) W) := by
    have h1 := Kd.C_below HR.out HB3.out
    exact ⟨fun W hW => toStr1 (P := Try.prog) c Try.underlying25 Try.underlying5 Try.underlying9 (Kd.C_below h1 hW)⟩
  have hs1 := HS.out _ (below_drew (Below.refl _ _))
  have hnee := hne.out
  have hnee2 := hne2.out
  refine start_ (n := 10) (S := fun w' => (convert 25 9 (.slice (some ad) b.length c)).run Try.prog w' = .ok (.string (strOfNums b)) w') (ds := []) #[false, false, false, false, false, false, false, false, false, false] (by kernel_rfl) rfl rfl (hs1) (fun hHeld => ?_)
  refine pure_ (i := 0) (N := some 52) (v := ?_) (a' := ?_) #[true, false, false, false, false, false, false, false, false, false] rfl rfl (by kernel_rfl) (fun _ _ _ h => h) (Or.inl ⟨by rfl, ?_⟩) ?_ ?_
  rotate_left
  · intro w'
    go_simp
    with_reducible rfl
  rotate_left
  · simp only [Act.put, List.setIfInBounds_toArray, List.set_cons_zero, List.set_cons_succ, i64_w, i32_w]
    rfl
  refine pure_ (i := 1) (N := some 53) (v := ?_) (a' := ?_) #[true, true, false, false, false, false, false, false, false, false] rfl rfl (by kernel_rfl) (fun _ _ _ h => h) (Or.inl ⟨by rfl, ?_⟩) ?_ ?_
  rotate_left
  · intro w'
    go_simp
    with_reducible rfl
  rotate_left
  · simp only [Act.put, List.setIfInBounds_toArray, List.set_cons_zero, List.set_cons_succ, i64_w, i32_w]
    rfl
  refine pure_ (i := 2) (N := some 54) (v := ?_) (a' := ?_) #[true, true, true, false, false, false, false, false, false, false] rfl rfl (by kernel_rfl) (fun _ _ _ h => h) (Or.inl ⟨by rfl, ?_⟩) ?_ ?_
  rotate_left
  · intro w'
    go_simp
    with_reducible rfl
  rotate_left
  · simp only [Act.put, List.setIfInBounds_toArray, List.set_cons_zero, List.set_cons_succ, i64_w, i32_w]
    rfl
  refine pure_ (i := 3) (N := some 55) (v := ?_) (a' := ?_) #[true, true, true, true, false, false, false, false, false, false] rfl rfl (by kernel_rfl) (fun _ _ _ h => h) (Or.inl ⟨by rfl, ?_⟩) ?_ ?_
  rotate_left
  · intro w'
    go_simp
    with_reducible rfl
  rotate_left
  · simp only [Act.put, List.setIfInBounds_toArray, List.set_cons_zero, List.set_cons_succ, i64_w, i32_w]
    rfl
  refine pure_ (i := 6) (N := some 58) (v := ?_) (a' := ?_) #[true, true, true, true, false, false, true, false, false, false] rfl rfl (by kernel_rfl) (fun _ _ _ h => h) (Or.inl ⟨by rfl, ?_⟩) ?_ ?_
  rotate_left
  · intro w'
    go_simp
    with_reducible rfl
  rotate_left
  · simp only [Act.put, List.setIfInBounds_toArray, List.set_cons_zero, List.set_cons_succ, i64_w, i32_w]
    rfl
  refine take_ (i := 7) (N := some 59) (v := ?_) (a' := ?_) #[true, true, true, true, false, false, true, true, false, false] rfl rfl (by kernel_rfl) (fun _ _ _ h => h) (Or.inl ⟨by rfl, ?_⟩) hHeld ?_ ?_
  rotate_left
  · intro w' s0
    go_simp
    with_reducible rfl
  rotate_left
  · simp only [Act.put, List.setIfInBounds_toArray, List.set_cons_zero, List.set_cons_succ, i64_w, i32_w]
    rfl
  refine one_ (i := 4) (N := some 56) #[true, true, true, true, true, false, true, true, false, false] rfl rfl (by kernel_rfl) (by decide) (fun K hK => ?_)
  refine goes_ Try.func19 (by kernel_rfl) rfl #[.slice Ax x.length cx] (by rfl) rfl rfl (by simp only [List.map_toArray, List.map_cons, List.map_nil]; rfl) ?_
  refine (refPutT Ax cx x _ (Kd.C_drew HX.out) lx hln HSZ.out).mono ?_
  rintro e w8 ⟨v, rfl, ho, hb2⟩
  refine ⟨_, rfl, ?_⟩
  obtain ⟨Ab, cb, rfl, lb, ho⟩ := R_C ho
  have s8 := toStr1 (P := Try.prog) cb Try.underlying25 Try.underlying5 Try.underlying9 ho
  have hs1 := HS.out _ (below_step (below_drew (Below.refl _ _)) hb2)
  have HB8 := Aside0.mk (below_step (below_drew HB3.out) hb2)
  have HL8 := Aside0.mk (Kd.C_below (Kd.C_drew HX.out) hb2)
  clear ho hb2
  refine hK.out _ _ (hs1) (fun hHeld => ?_)
  clear hK K
  refine norm_ (a' := ?_) ?_ ?_
  rotate_left
  · show Act.put _ (some 56) _ = _
    simp only [Act.put, List.setIfInBounds_toArray, List.set_cons_zero, List.set_cons_succ, i64_w, i32_w]
    rfl
  refine one_ (i := 5) (N := some 57) #[true, true, true, true, true, true, true, true, false, false] rfl rfl (by kernel_rfl) (by decide) (fun K hK => ?_)
  refine value_ (w1 := ?_) (v := ?_) (by rfl) rfl ?_ ?_
  rotate_left 2
  · go_simp
    constructor
    · rfl
    · rfl
  refine hK.out _ _ (hs1) (fun hHeld => ?_)
  clear hK K
  refine norm_ (a' := ?_) ?_ ?_
  rotate_left
  · show Act.put _ (some 57) _ = _
    simp only [Act.put, List.setIfInBounds_toArray, List.set_cons_zero, List.set_cons_succ, i64_w, i32_w]
    rfl
  refine pure_ (i := 8) (N := some 60) (v := ?_) (a' := ?_) #[true, true, true, true, true, true, true, true, true, false] rfl rfl (by kernel_rfl) (fun _ _ _ h => h) (Or.inl ⟨by rfl, ?_⟩) ?_ ?_
  rotate_left
  · intro w'
    go_simp
    with_reducible rfl
  rotate_left
  · simp only [Act.put, List.setIfInBounds_toArray, List.set_cons_zero, List.set_cons_succ, i64_w, i32_w]
    rfl
  refine pure_ (i := 9) (N := some 61) (v := ?_) (a' := ?_) #[true, true, true, true, true, true, true, true, true, true] rfl rfl (by kernel_rfl) (fun _ _ _ h => h) (Or.inl ⟨by rfl, ?_⟩) ?_ ?_
  rotate_left
  · intro w'
    go_simp
    with_reducible rfl
  rotate_left
  · simp only [Act.put, List.setIfInBounds_toArray, List.set_cons_zero, List.set_cons_succ, i64_w, i32_w]
    rfl
  refine done_ (by kernel_rfl) ?_
  go_wp2_with (fail)
  go_ret2
  exact ⟨rfl, HB8.out⟩

set_option maxHeartbeats 8000000 in
set_option maxRecDepth 100000 in
theorem way0_some_good (A : Option Addr) (c : Nat) (b : List Int) (w : World) (hr : Kd.C (Kd.int .u8) w A b.length b) (hc : b.length ≤ c) (hb : Bytes b) (hl : b.length < 1000000000) (n m : Nat) (hv : var b = ((n : Int), (m : Int))) (h0 : m ≠ 0) (hn : n ≤ 2000) (hm : m < b.length) (hway : b.getD m 0 ≠ 1) (x : List ByteArray) (r : List Int) (hE : eachR (b.drop (m + 1)) n = some (x, r)) (l : List ByteArray) (hxl : x = l) (hln : l.length ≤ 2000) (hsz : ∀ s ∈ l, s.size ≤ 1000) (hput : put l = b) :
    Calls Try.prog 15 #[.slice A b.length c] w fun e w' => ∃ A' c', e = .returned (.tuple #[.slice A' l.length c', .int .i64 0]) ∧ l.length ≤ c' ∧ Kd.C Kd.string w' A' l.length l ∧ Below w.heap.size w w' := by
  subst hxl
  have HR := Aside0.mk hr
  have HV := Aside0.mk (fun W h => refVar A c b W h hc hb)
  rw [hv] at HV
  obtain ⟨A2, hcut, h2, l2⟩ := cutFrom (P := Try.prog) 25 5 Try.underlying25 CEach.info_u8 .u8 A c b ((m : Int) + 1) (by omega) (by omega) hc
  rw [show ((m : Int) + 1).toNat = m + 1 from by omega] at hcut h2 l2
  have H2 := Aside0.mk h2
  have HEA := Aside0.mk (fun W h => CRefT.eachC A2 (c - (m + 1)) (b.drop (m + 1)) n W h l2 (hb.drop _) (by rw [List.length_drop]; omega) (by omega))
  rw [hE] at HEA
  obtain ⟨ad, rfl, hcells⟩ := C_cells hr (by omega)
  have HC0 := Aside0.mk (hcells m hm)
  clear hcells
  obtain ⟨k, hk⟩ : ∃ k, b.getD m 0 = k := ⟨_, rfl⟩
  rw [hk] at HC0 hway
  clear hk
  have hway1 : (k == 1) = false := beq_eq_false_iff_ne.mpr hway
  clear hway
  have HP := Aside0.mk hput
  clear hput
  have HSZ := Aside0.mk hsz
  clear hsz
  clear hr hb hv hE l2 h2
  generalize b.drop (m + 1) = D at *
  have hp0 : ((m : Int) == 0) = false := beq_eq_false_iff_ne.mpr (by omega)
  have hp0n : (m == 0) = false := beq_eq_false_iff_ne.mpr h0
  have hgt : decide ((2000 : Int) < (n : Int)) = false := decide_eq_false (by omega)
  have hge : decide ((b.length : Int) ≤ (m : Int)) = false := decide_eq_false (by omega)
  have hgen : decide (b.length ≤ m) = false := decide_eq_false (by omega)
  have hmI : (m : Int) < (b.length : Int) := by omega
  go_enter Try.func15, Try.ntmps15
  go_wp2_with (fail)
  refine (HV.out _ HR.out).mono ?_; rintro e w1 ⟨rfl, hb⟩
  have HB1 := Aside0.mk hb
  have HD := Aside0.mk (H2.out _ (Kd.C_below HR.out hb))
  have hc0 := pw_cell_below hb HC0.out
  clear hb HC0 H2 HV
  go_wp2_with (fail)
  refine (HEA.out _ HD.out).mono ?_
  rintro e w2 ⟨Ax, cx, Ar, cr, rfl, lx, lr, hcx, hcr, hb⟩
  simp only at lx lr hcx hcr ⊢
  have HB2 := Aside0.mk (below_step HB1.out hb)
  have HD2 := Aside0.mk (Kd.C_below HD.out hb)
  have HX := Aside0.mk hcx
  have hc2 := pw_cell_below hb hc0
  clear hb HEA hc0 hcx hcr
  go_wp2_with (fail)
  clear hc2
  have HB3 := HB2
  have HS : Aside0 (∀ W, Below w2.heap.size w2 W → (convert 25 9 (.slice (some ad) b.length c)).run Try.prog W = .ok (.string (strOfNums b)) W) := by
    have h1 := Kd.C_below HR.out HB3.out
    exact ⟨fun W hW => toStr1 (P := Try.prog) c Try.underlying25 Try.underlying5 Try.underlying9 (Kd.C_below h1 hW)⟩
  have hs1 := HS.out _ (below_drew (Below.refl _ _))
  refine start_ (n := 10) (S := fun w' => (convert 25 9 (.slice (some ad) b.length c)).run Try.prog w' = .ok (.string (strOfNums b)) w') (ds := []) #[false, false, false, false, false, false, false, false, false, false] (by kernel_rfl) rfl rfl (hs1) (fun hHeld => ?_)
  refine pure_ (i := 0) (N := some 52) (v := ?_) (a' := ?_) #[true, false, false, false, false, false, false, false, false, false] rfl rfl (by kernel_rfl) (fun _ _ _ h => h) (Or.inl ⟨by rfl, ?_⟩) ?_ ?_
  rotate_left
  · intro w'
    go_simp
    with_reducible rfl
  rotate_left
  · simp only [Act.put, List.setIfInBounds_toArray, List.set_cons_zero, List.set_cons_succ, i64_w, i32_w]
    rfl
  refine pure_ (i := 1) (N := some 53) (v := ?_) (a' := ?_) #[true, true, false, false, false, false, false, false, false, false] rfl rfl (by kernel_rfl) (fun _ _ _ h => h) (Or.inl ⟨by rfl, ?_⟩) ?_ ?_
  rotate_left
  · intro w'
    go_simp
    with_reducible rfl
  rotate_left
  · simp only [Act.put, List.setIfInBounds_toArray, List.set_cons_zero, List.set_cons_succ, i64_w, i32_w]
    rfl
  refine pure_ (i := 2) (N := some 54) (v := ?_) (a' := ?_) #[true, true, true, false, false, false, false, false, false, false] rfl rfl (by kernel_rfl) (fun _ _ _ h => h) (Or.inl ⟨by rfl, ?_⟩) ?_ ?_
  rotate_left
  · intro w'
    go_simp
    with_reducible rfl
  rotate_left
  · simp only [Act.put, List.setIfInBounds_toArray, List.set_cons_zero, List.set_cons_succ, i64_w, i32_w]
    rfl
  refine pure_ (i := 3) (N := some 55) (v := ?_) (a' := ?_) #[true, true, true, true, false, false, false, false, false, false] rfl rfl (by kernel_rfl) (fun _ _ _ h => h) (Or.inl ⟨by rfl, ?_⟩) ?_ ?_
  rotate_left
  · intro w'
    go_simp
    with_reducible rfl
  rotate_left
  · simp only [Act.put, List.setIfInBounds_toArray, List.set_cons_zero, List.set_cons_succ, i64_w, i32_w]
    rfl
  refine pure_ (i := 6) (N := some 58) (v := ?_) (a' := ?_) #[true, true, true, true, false, false, true, false, false, false] rfl rfl (by kernel_rfl) (fun _ _ _ h => h) (Or.inl ⟨by rfl, ?_⟩) ?_ ?_
  rotate_left
  · intro w'
    go_simp
    with_reducible rfl
  rotate_left
  · simp only [Act.put, List.setIfInBounds_toArray, List.set_cons_zero, List.set_cons_succ, i64_w, i32_w]
    rfl
  refine take_ (i := 7) (N := some 59) (v := ?_) (a' := ?_) #[true, true, true, true, false, false, true, true, false, false] rfl rfl (by kernel_rfl) (fun _ _ _ h => h) (Or.inl ⟨by rfl, ?_⟩) hHeld ?_ ?_
  rotate_left
  · intro w' s0
    go_simp
    with_reducible rfl
  rotate_left
  · simp only [Act.put, List.setIfInBounds_toArray, List.set_cons_zero, List.set_cons_succ, i64_w, i32_w]
    rfl
  refine one_ (i := 4) (N := some 56) #[true, true, true, true, true, false, true, true, false, false] rfl rfl (by kernel_rfl) (by decide) (fun K hK => ?_)
  refine goes_ Try.func19 (by kernel_rfl) rfl #[.slice Ax x.length cx] (by rfl) rfl rfl (by simp only [List.map_toArray, List.map_cons, List.map_nil]; rfl) ?_
  refine (refPutT Ax cx x _ (Kd.C_drew HX.out) lx hln HSZ.out).mono ?_
  rintro e w8 ⟨v, rfl, ho, hb2⟩
  refine ⟨_, rfl, ?_⟩
  rw [HP.out] at ho
  obtain ⟨Ab, cb, rfl, lb, ho⟩ := R_C ho
  have s8 := toStr1 (P := Try.prog) cb Try.underlying25 Try.underlying5 Try.underlying9 ho
  have hs1 := HS.out _ (below_step (below_drew (Below.refl _ _)) hb2)
  have HB8 := Aside0.mk (below_step (below_drew HB3.out) hb2)
  have HL8 := Aside0.mk (Kd.C_below (Kd.C_drew HX.out) hb2)
  clear ho hb2
  refine hK.out _ _ (hs1) (fun hHeld => ?_)
  clear hK K
  refine norm_ (a' := ?_) ?_ ?_
  rotate_left
  · show Act.put _ (some 56) _ = _
    simp only [Act.put, List.setIfInBounds_toArray, List.set_cons_zero, List.set_cons_succ, i64_w, i32_w]
    rfl
  refine one_ (i := 5) (N := some 57) #[true, true, true, true, true, true, true, true, false, false] rfl rfl (by kernel_rfl) (by decide) (fun K hK => ?_)
  refine value_ (w1 := ?_) (v := ?_) (by rfl) rfl ?_ ?_
  rotate_left 2
  · go_simp
    constructor
    · rfl
    · rfl
  refine hK.out _ _ (hs1) (fun hHeld => ?_)
  clear hK K
  refine norm_ (a' := ?_) ?_ ?_
  rotate_left
  · show Act.put _ (some 57) _ = _
    simp only [Act.put, List.setIfInBounds_toArray, List.set_cons_zero, List.set_cons_succ, i64_w, i32_w]
    rfl
  refine pure_ (i := 8) (N := some 60) (v := ?_) (a' := ?_) #[true, true, true, true, true, true, true, true, true, false] rfl rfl (by kernel_rfl) (fun _ _ _ h => h) (Or.inl ⟨by rfl, ?_⟩) ?_ ?_
  rotate_left
  · intro w'
    go_simp
    with_reducible rfl
  rotate_left
  · simp only [Act.put, List.setIfInBounds_toArray, List.set_cons_zero, List.set_cons_succ, i64_w, i32_w]
    rfl
  refine pure_ (i := 9) (N := some 61) (v := ?_) (a' := ?_) #[true, true, true, true, true, true, true, true, true, true] rfl rfl (by kernel_rfl) (fun _ _ _ h => h) (Or.inl ⟨by rfl, ?_⟩) ?_ ?_
  rotate_left
  · intro w'
    go_simp
    with_reducible rfl
  rotate_left
  · simp only [Act.put, List.setIfInBounds_toArray, List.set_cons_zero, List.set_cons_succ, i64_w, i32_w]
    rfl
  refine done_ (by kernel_rfl) ?_
  go_wp2_with (fail)
  go_ret2
  exact ⟨Ax, cx, rfl, lx, HL8.out, HB8.out⟩

/-- What a reading answers: a row of texts, and an error's number. -/
def Gives (x : List ByteArray) (r : Int) (w : World) (e : Ending) (w' : World) : Prop :=
  ∃ A' c', e = .returned (.tuple #[.slice A' x.length c', .int .i64 r]) ∧ x.length ≤ c' ∧ Kd.C Kd.string w' A' x.length x ∧ Below w.heap.size w w'
def er (M : Option (List ByteArray)) : Int := match M with | none => 10 | some _ => 0
theorem gives_none {w w' : World} {e : Ending} (he : e = .returned (.tuple #[.slice none 0 0, .int .i64 10])) (hb : Below w.heap.size w w') : Gives ((none : Option (List ByteArray)).getD []) (er none) w e w' :=
  ⟨none, 0, he, Nat.le_refl _, (Kd.R_reads' (R_nilS 0 w')).2.2, hb⟩
theorem refTakeG (A : Option Addr) (c : Nat) (b : List Int) (w : World) (hr : Kd.C (Kd.int .u8) w A b.length b) (hc : b.length ≤ c) (hb : Bytes b) (hl : b.length < 1000000000) :
    Calls Try.prog 15 #[.slice A b.length c] w (Gives ((takeM b).getD []) (er (takeM b)) w) := by
  have hv := var_range hb
  by_cases hg : (var b).2 = 0 ∨ (var b).1 > 2000 ∨ (var b).2 ≥ b.length
  · have ht : takeM b = none := by unfold takeM; rw [if_pos hg]
    rw [ht]
    by_cases h0 : (var b).2 = 0
    · exact (guard_zero A c b w hr hc hb hl _ _ rfl h0).mono fun e w' h => gives_none h.1 h.2
    · by_cases h1 : (var b).1 > 2000
      · exact (guard_big A c b w hr hc hb hl _ _ rfl h0 h1).mono fun e w' h => gives_none h.1 h.2
      · exact (guard_short A c b w hr hc hb hl _ _ rfl h0 h1 ((hg.resolve_left h0).resolve_left h1)).mono fun e w' h => gives_none h.1 h.2
  · obtain ⟨n, hn⟩ : ∃ n : Nat, (var b).1 = (n : Int) := Int.eq_ofNat_of_zero_le hv.1
    obtain ⟨m, hm⟩ : ∃ m : Nat, (var b).2 = (m : Int) := Int.eq_ofNat_of_zero_le hv.2.2.1
    have hvv : var b = ((n : Int), (m : Int)) := Prod.ext hn hm
    rw [hn, hm] at hg
    have htk : takeM b = (takeL b).bind fun l => if put l = b then some l else none := by unfold takeM; rw [hn, hm, if_neg hg]
    have htl : takeL b = (if b.getD m 0 = 1 then numberedR (b.drop (m + 1)) n else eachR (b.drop (m + 1)) n).map Prod.fst := by unfold takeL; rw [hn, hm, Int.toNat_natCast, Int.toNat_natCast]
    by_cases hw : b.getD m 0 = 1
    · rw [if_pos hw] at htl
      cases hN : numberedR (b.drop (m + 1)) n with
      | none =>
        rw [hN] at htl
        rw [htk, htl]
        cases hE : eachR (b.drop (m + 1)) n with
        | none => exact (way1_none_bad A c b w hr hc hb hl n m hvv (by omega) (by omega) (by omega) hw hE hN).mono fun e w' h => gives_none h.1 h.2
        | some q => exact (way1_some_bad A c b w hr hc hb hl n m hvv (by omega) (by omega) (by omega) hw q.1 q.2 hE hN).mono fun e w' h => gives_none h.1 h.2
      | some p =>
        have hz := numberedR_size hN
        rw [hN] at htl
        rw [htk, htl]
        simp only [Option.map_some, Option.bind_some]
        by_cases hp : put p.1 = b
        · rw [if_pos hp]
          cases hE : eachR (b.drop (m + 1)) n with
          | none => exact way1_none_good A c b w hr hc hb hl n m hvv (by omega) (by omega) (by omega) hw hE p.1 p.2 hN (by omega) (fun s h => by have := hz.2 s h; omega) hp
          | some q => exact way1_some_good A c b w hr hc hb hl n m hvv (by omega) (by omega) (by omega) hw q.1 q.2 hE p.1 p.2 hN (by omega) (fun s h => by have := hz.2 s h; omega) hp
        · rw [if_neg hp]
          cases hE : eachR (b.drop (m + 1)) n with
          | none => exact (way1_none_other A c b w hr hc hb hl n m hvv (by omega) (by omega) (by omega) hw hE p.1 p.2 hN (by omega) (fun s h => by have := hz.2 s h; omega) hp).mono fun e w' h => gives_none h.1 h.2
          | some q => exact (way1_some_other A c b w hr hc hb hl n m hvv (by omega) (by omega) (by omega) hw q.1 q.2 hE p.1 p.2 hN (by omega) (fun s h => by have := hz.2 s h; omega) hp).mono fun e w' h => gives_none h.1 h.2
    · rw [if_neg hw] at htl
      cases hE : eachR (b.drop (m + 1)) n with
      | none =>
        rw [hE] at htl
        rw [htk, htl]
        exact (way0_none_bad A c b w hr hc hb hl n m hvv (by omega) (by omega) (by omega) hw hE).mono fun e w' h => gives_none h.1 h.2
      | some q =>
        have hz := eachR_size _ _ _ hE
        rw [hE] at htl
        rw [htk, htl]
        simp only [Option.map_some, Option.bind_some]
        by_cases hp : put q.1 = b
        · rw [if_pos hp]
          exact way0_some_good A c b w hr hc hb hl n m hvv (by omega) (by omega) (by omega) hw q.1 q.2 hE q.1 rfl (by omega) (fun s h => by have := hz.2 s h; omega) hp
        · rw [if_neg hp]
          exact (way0_some_other A c b w hr hc hb hl n m hvv (by omega) (by omega) (by omega) hw q.1 q.2 hE q.1 rfl (by omega) (fun s h => by have := hz.2 s h; omega) hp).mono fun e w' h => gives_none h.1 h.2
theorem takeM_len {b : List Int} : ((takeM b).getD []).length ≤ 2000 := by
  cases h : takeM b with
  | none => simp
  | some x => exact (takeM_some h).2.1
end Go.Proofs.Ytnecipeckamiiaa.CRefTT
