/-
  A parameter '[]string', opened: the texts that it holds.
-/
import Derived.Test.YtnecipeckamiiaaHoldS
import Derived.Deep.Strs
import Derived.SizedLaws
namespace Go.Proofs.Ytnecipeckamiiaa.RowS
open Go.RowKit Go.Deep Go.ChangeShapes Go.WideShapes Go.Proofs.YtnecipeckamiiaaW.PrintWords
theorem open_row {H : Type} {enc : TypeId × Value → H} {P : Program} {W : World} {base : Nat} {spare : Nat → Bool} {held : Bool} {t e : TypeId} {a : Option Addr} {len cap : Nat} {d : DataW H} {ps : List MemPlace} {ts : List TypeId} {ds : List (DataW H)} {j : Nat}
    (hsz : (DataW.weightsEach P ts ds).all (· ≤ reachBytes) = true) (ht : ts[j]? = some t) (hd : ds[j]? = some d) (hu : P.underlying t = some (.slice e)) (he : P.underlying e = some .string) (hc : P.cellsOf e = 1) (hB : P.bytesOf e = 16)
    (h : DataW.Trod enc P W base spare held t (.slice a len cap) d ps) : ∃ l : List ByteArray, len = l.length ∧ Kd.C Kd.string W a l.length l ∧ l.length ≤ cap ∧ l.length * 16 ≤ 140737488351232 := by
  obtain ⟨fuel, hf⟩ := h
  rcases open_strs hu he hc hf with ⟨hcs, _⟩ | ⟨x, l, c, m, Sx, hcs, _, hl, hm, hmm, hx, hcell⟩
  · simp [Value.cells] at hcs
    obtain ⟨rfl, rfl, rfl⟩ := hcs
    exact ⟨[], rfl, Kd.C_of_reads (d := ByteArray.empty) (h1 := fun _ => rfl) ⟨rfl, by simp, fun h0 => absurd h0 (by simp)⟩, Nat.le_refl _, by simp⟩
  · simp [Value.cells] at hcs
    obtain ⟨rfl, rfl, rfl⟩ := hcs
    obtain ⟨hx, _⟩ := Prod.mk.inj hx
    subst hx
    have z := sized_slice hsz ht hd hu
    rw [hB, List.length_map, List.length_range, List.length_map, List.length_range] at z
    have hlm : len ≤ m := by rw [hmm]; split <;> omega
    have hll : ((List.range len).map Sx).length = len := by simp
    refine ⟨(List.range len).map Sx, hll.symm, ?_, by rw [hll]; exact hl, ?_⟩
    · rw [hll]
      refine Kd.C_of_reads (d := ByteArray.empty) (h1 := fun _ => rfl) ⟨hll, by unfold maxLen at hm; omega, fun _ => ⟨x, rfl, fun i hi => ?_⟩⟩
      rw [(hcell i (by omega)).1, List.getD_eq_getElem?_getD]
      simp [hi]
    · rw [hll]
      have : reachBytes = 140737488351232 := rfl
      rw [this] at z
      omega
end Go.Proofs.Ytnecipeckamiiaa.RowS
