/-
  The contracts of the texts reference's place and Same, and of few.
-/
import Derived.Test.YtnecipeckamiiaaQTextsAllx2
import Derived.Test.YtnecipeckamiiaaQTextsAllx3
import Derived.Test.YtnecipeckamiiaaCEach
namespace Go.Proofs.Ytnecipeckamiiaa.CPlace
open Go.RowKit Go.Proofs.Ytnecipeckamiiaa.QTextsAll Go.Proofs.YtnecipeckamiiaaW.PrintWords Go.Proofs.YtnecipeckamiiaaW.PrintLast Go.Proofs.YtnecipeckamiiaaW.PrintMore Go.Proofs.Ytnecipeckamiiaa.Num Go.Proofs.Ytnecipeckamiiaa.Bits Go.Proofs.Ytnecipeckamiiaa.VarM Go.Proofs.Ytnecipeckamiiaa.TextsT Go.Proofs.Ytnecipeckamiiaa.Hold Go.Proofs.Ytnecipeckamiiaa.HoldS
set_option linter.unusedVariables false

theorem toList_inj {s t : ByteArray} (h : s.toList = t.toList) : s = t := by
  rw [← str_bytesOf s, ← str_bytesOf t] at h
  exact bytesOf_inj (str_inj (bytesOf_Bytes s) (bytesOf_Bytes t) h)
theorem drop_rd (l : List ByteArray) (i : Nat) (h : i < l.length) : l.drop i = rdOf ByteArray.empty l i :: l.drop (i + 1) := by
  rw [List.drop_eq_getElem_cons h]
  simp [rdOf, List.getD_eq_getElem?_getD, h]
def placeI (l : List ByteArray) (s : ByteArray) : Int := if s ∈ l then (l.idxOf s : Int) else -1
theorem place_loop (l : List ByteArray) (s : ByteArray) (hn : l.length < 1000000000) (d : Nat) : ∀ (k i : Nat), i + d = l.length → d < k →
    thresherref06_place.l0 k l s (i : Int) = some (if s ∈ l.drop i then ((i + (l.drop i).idxOf s : Nat) : Int) else -1) := by
  induction d with
  | zero =>
    intro k i hi hk
    obtain ⟨k, rfl⟩ : ∃ m, k = m + 1 := ⟨k - 1, by omega⟩
    rw [thresherref06_place.l0, if_neg (by omega), List.drop_of_length_le (by omega)]
    simp
  | succ d ih =>
    intro k i hi hk
    obtain ⟨k, rfl⟩ : ∃ m, k = m + 1 := ⟨k - 1, by omega⟩
    have e : wrap64 ((i : Int) + 1) = ((i + 1 : Nat) : Int) := by rw [wrap64_id (by omega) (by omega)]; rfl
    rw [thresherref06_place.l0, if_pos (by omega), if_pos (by omega), drop_rd l i (by omega)]
    by_cases h : rdOf ByteArray.empty l i = s
    · rw [if_pos (by rw [h]), h, if_pos List.mem_cons_self]
      simp
    · rw [if_neg (fun h0 => h (toList_inj h0)), e, ih k (i + 1) (by omega) (by omega)]
      have hm : (s ∈ rdOf ByteArray.empty l i :: l.drop (i + 1)) ↔ s ∈ l.drop (i + 1) := by
        rw [List.mem_cons]
        exact ⟨fun h1 => h1.resolve_left (fun h2 => h h2.symm), .inr⟩
      rw [List.idxOf_cons, beq_eq_false_iff_ne.mpr h]
      by_cases h2 : s ∈ l.drop (i + 1)
      · rw [if_pos h2, if_pos (hm.2 h2)]
        congr 2
        simp
        omega
      · rw [if_neg h2, if_neg (fun h3 => h2 (hm.1 h3))]
theorem placeC (A : Option Addr) (c : Nat) (l : List ByteArray) (s : ByteArray) (w : World) (hr : Kd.C Kd.string w A l.length l) (hc : l.length ≤ c) (hn : l.length < 1000000000) :
    Calls Try.prog 30 #[.slice A l.length c, .string s] w fun e w' => e = .returned (.int .i64 (placeI l s)) ∧ Drawn0 w w' := by
  refine thresherref06_place.calls (l.length + 1) A c l s _ w hr hc ?_
  unfold thresherref06_place.f
  rw [show (0 : Int) = ((0 : Nat) : Int) from rfl, place_loop l s hn l.length (l.length + 1) 0 (by omega) (by omega)]
  simp [placeI]
/-- Same, of any two rows. -/
theorem same_loop (l m : List ByteArray) (hn : l.length < 1000000000) (hlm : l.length = m.length) (d : Nat) : ∀ (k i : Nat), i + d = l.length → d < k →
    thresherref06_Same.l0 k l m (i : Int) = some (decide (l.drop i = m.drop i)) := by
  induction d with
  | zero =>
    intro k i hi hk
    obtain ⟨k, rfl⟩ : ∃ m, k = m + 1 := ⟨k - 1, by omega⟩
    rw [thresherref06_Same.l0, if_neg (by omega), List.drop_of_length_le (by omega), List.drop_of_length_le (by omega)]
    simp
  | succ d ih =>
    intro k i hi hk
    obtain ⟨k, rfl⟩ : ∃ m, k = m + 1 := ⟨k - 1, by omega⟩
    have e : wrap64 ((i : Int) + 1) = ((i + 1 : Nat) : Int) := by rw [wrap64_id (by omega) (by omega)]; rfl
    rw [thresherref06_Same.l0, if_pos (by omega), if_pos (by omega), if_pos (by omega), drop_rd l i (by omega), drop_rd m i (by omega)]
    by_cases h : rdOf ByteArray.empty l i = rdOf ByteArray.empty m i
    · rw [if_pos (by rw [h]), e, ih k (i + 1) (by omega) (by omega), h]
      simp
    · rw [if_neg (fun h0 => h (toList_inj h0))]
      simp [h]
theorem sameC (A A' : Option Addr) (c c' : Nat) (l m : List ByteArray) (w : World) (hr : Kd.C Kd.string w A l.length l) (hc : l.length ≤ c) (hr' : Kd.C Kd.string w A' m.length m) (hc' : m.length ≤ c') (hn : l.length < 1000000000) :
    Calls Try.prog 16 #[.slice A l.length c, .slice A' m.length c'] w fun e w' => e = .returned (.bool (decide (l = m))) ∧ Drawn0 w w' := by
  refine thresherref06_Same.calls (l.length + 1) A c l A' c' m _ w hr hc hr' hc' ?_
  unfold thresherref06_Same.f
  by_cases h : l.length = m.length
  · rw [if_pos (by omega), show (0 : Int) = ((0 : Nat) : Int) from rfl, same_loop l m hn h l.length (l.length + 1) 0 (by omega) (by omega)]
    simp
  · rw [if_neg (by omega)]
    congr 1
    exact (decide_eq_false (fun h0 => h (by rw [h0]))).symm

end Go.Proofs.Ytnecipeckamiiaa.CPlace
