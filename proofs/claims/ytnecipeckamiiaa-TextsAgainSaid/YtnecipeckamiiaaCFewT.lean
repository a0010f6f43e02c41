/-
  The contracts of few and of shown.
-/
import Derived.Test.YtnecipeckamiiaaCPutT
namespace Go.Proofs.Ytnecipeckamiiaa.CFewT
open Go.RowKit Go.Proofs.Ytnecipeckamiiaa.RVar Go.Proofs.Ytnecipeckamiiaa.QTextsAll Go.Proofs.YtnecipeckamiiaaW.PrintWords Go.Proofs.YtnecipeckamiiaaW.PrintLast Go.Proofs.YtnecipeckamiiaaW.PrintMore Go.Proofs.Ytnecipeckamiiaa.Num Go.Proofs.Ytnecipeckamiiaa.Bits Go.Proofs.Ytnecipeckamiiaa.VarM Go.Proofs.Ytnecipeckamiiaa.TextsT Go.Proofs.Ytnecipeckamiiaa.Hold Go.Proofs.Ytnecipeckamiiaa.HoldS Go.Proofs.Ytnecipeckamiiaa.CEach Go.Proofs.Ytnecipeckamiiaa.KDict Go.Proofs.Ytnecipeckamiiaa.CPlace Go.Proofs.Ytnecipeckamiiaa.CPutT
set_option linter.unusedVariables false
set_option linter.unusedSimpArgs false
attribute [local go_sem] max2_int min2_int max_two min_two max_three min_three max_four min_four

def cut60 (s : ByteArray) : ByteArray := if s.size > 60 then s.extract 0 60 else s
def fewL (l : List ByteArray) : List ByteArray := (l.take 60).map cut60
theorem cut60_size (s : ByteArray) : (cut60 s).size ≤ 60 := by
  unfold cut60
  split
  · rw [ByteArray.size_extract]; omega
  · omega
theorem fewL_length (l : List ByteArray) : (fewL l).length ≤ 60 := by unfold fewL; rw [List.length_map, List.length_take]; omega
theorem fewL_size (l : List ByteArray) : ∀ s ∈ fewL l, s.size ≤ 60 := by
  intro s hs
  obtain ⟨t, _, rfl⟩ := List.mem_map.1 hs
  exact cut60_size t
theorem few_loop (l : List ByteArray) (hn : l.length < 10000000000000) (d : Nat) : ∀ (k i : Nat) (acc : List ByteArray), i + d = min l.length 60 → 2 * d + 2 < k → acc.length = i →
    thresherlaw06_few.l0 k l acc (i : Int) = some (acc ++ ((l.take 60).drop i).map cut60) := by
  induction d with
  | zero =>
    intro k i acc hi hk ha
    obtain ⟨k, rfl⟩ : ∃ m, k = m + 2 := ⟨k - 2, by omega⟩
    rw [List.drop_of_length_le (by rw [List.length_take]; omega), thresherlaw06_few.l0]
    split
    · rw [thresherlaw06_few.j1, if_neg (by simp; omega)]; simp
    · rw [thresherlaw06_few.j1, if_neg (by simp)]; simp
  | succ d ih =>
    intro k i acc hi hk ha
    obtain ⟨k, rfl⟩ : ∃ m, k = m + 2 := ⟨k - 2, by omega⟩
    have e : wrap64 ((i : Int) + 1) = ((i + 1 : Nat) : Int) := by rw [wrap64_id (by omega) (by omega)]; rfl
    have hd : (l.take 60).drop i = rdOf ByteArray.empty l (i : Int) :: (l.take 60).drop (i + 1) := by
      rw [List.drop_eq_getElem_cons (by rw [List.length_take]; omega)]
      simp [rdOf, List.getD_eq_getElem?_getD, show i < l.length by omega]
    rw [thresherlaw06_few.l0, if_pos (by omega), thresherlaw06_few.j1, if_pos (by simp; omega), if_pos (by omega), if_pos (by omega), hd, e, List.map_cons]
    by_cases h : ((rdOf ByteArray.empty l (i : Int)).size : Int) > 60
    · rw [if_pos h, if_pos (by omega), if_pos (by omega), if_pos (by omega), ih k (i + 1) _ (by omega) (by omega) (by simp [ha])]
      simp [cut60, show (rdOf ByteArray.empty l (i : Int)).size > 60 by omega]
    · rw [if_neg h, if_pos (by omega), ih k (i + 1) _ (by omega) (by omega) (by simp [ha])]
      simp [cut60, show ¬ (rdOf ByteArray.empty l (i : Int)).size > 60 by omega]
theorem fewC (A : Option Addr) (c : Nat) (l : List ByteArray) (w : World) (hr : Kd.C Kd.string w A l.length l) (hc : l.length ≤ c) (hn : l.length < 10000000000000) :
    Calls Try.prog 10 #[.slice A l.length c] w fun e w' => ∃ v, e = .returned v ∧ Kd.R Kd.string 9 w' w.heap.size (fun _ => True) v (fewL l) ∧ Below w.heap.size w w' := by
  refine thresherlaw06_few.calls (2 * 60 + 3) A c l (fewL l) w hr hc ?_
  unfold thresherlaw06_few.f
  rw [show (0 : Int) = ((0 : Nat) : Int) from rfl, few_loop l hn (min l.length 60) _ 0 [] (by omega) (by omega) rfl]
  simp [fewL]
theorem R_CS {e : Nat} {w : World} {base : Nat} {ok : Nat → Prop} {v : Value} {xs : List ByteArray} (h : Kd.R Kd.string e w base ok v xs) :
    ∃ A c, v = .slice A xs.length c ∧ xs.length ≤ c ∧ Kd.C Kd.string w A xs.length xs := Kd.R_reads h

/-! ### shown -/
def abc : ByteArray := ⟨#[97, 98, 99]⟩
theorem put_abc : strOfNums (put [abc, abc]) = ⟨#[2, 1, 1, 3, 97, 98, 99, 0, 0]⟩ := by
  have hb : bytesOf abc = [97, 98, 99] := rfl
  have hs : abc.size = 3 := rfl
  have hw : words [] [abc, abc] = [abc] := by simp [words, more]
  have hp : wheres [] [abc, abc] = [0, 0] := by simp [wheres, more, pv_small]
  have hd : dict [abc, abc] = [1, 3, 97, 98, 99, 0, 0] := by rw [dict, hw, hp]; simp [each, hb, hs, pv_small]
  have he : each [abc, abc] = [3, 97, 98, 99, 3, 97, 98, 99] := by simp [each, hb, hs, pv_small]
  have h : put [abc, abc] = [2, 1, 1, 3, 97, 98, 99, 0, 0] := by rw [put, hd, he]; simp [pv_small]
  rw [h]
  rfl
set_option maxHeartbeats 8000000 in
set_option maxRecDepth 100000 in
theorem shownC (w : World) : Calls Try.prog 9 #[] w fun e w' => e = .returned (.bool true) ∧ Below w.heap.size w w' := by
  have HC : Aside0 (Kd.C Kd.string (w.alloc (.cells #[.string abc, .string abc] 9)) (some ⟨w.heap.size, 0, none⟩) [abc, abc].length [abc, abc]) := by
    have h := World.ownsRow_lit (base := w.heap.size) (e := 9) (size := 1) w #[.string abc, .string abc] 2 (Nat.le_refl _) (by simp [maxLen]) (by simp)
    have h2 : Kd.R Kd.string 9 (w.alloc (.cells #[.string abc, .string abc] 9)) w.heap.size (fun _ => True) (.slice (some ⟨w.heap.size, 0, none⟩) 2 2) [abc, abc] := Kd.R_of_own (enc := Value.string) h (fun _ _ => trivial)
    exact ⟨(Kd.R_reads' h2).2.2⟩
  have HP := Aside0.mk put_abc
  go_enter Try.func9, Try.ntmps9
  go_wp2_with (fail)
  refine (putC (some ⟨w.heap.size, 0, none⟩) 2 [abc, abc] _ HC.out (by decide) (by decide) (by intro s hs; simp at hs; subst hs; decide)).mono ?_; rintro e w1 ⟨v, rfl, ho, hb⟩
  obtain ⟨Ap, cp, rfl, lp, ho⟩ := R_C ho
  have hst := toStr1 (P := Try.prog) cp Try.underlying25 Try.underlying5 Try.underlying9 ho
  rw [HP.out] at hst
  have HB := Aside0.mk (below_then (below_alloc (Below.refl w.heap.size w) _) (by simp) hb)
  clear ho hb
  go_wp2_with (fail)
  go_ret
  exact ⟨rfl, HB.out⟩

end Go.Proofs.Ytnecipeckamiiaa.CFewT
