/-
  The key of texts.Dict's map: a struct of one text.
-/
import Derived.Test.YtnecipeckamiiaaHoldS
import Derived.Test.YtnecipeckamiiaaTextsT
import Derived.Test.YtnecipeckamiiaaProg
import Derived.KernelRfl
import Derived.Maps.OwnSet
import Derived.Maps.Views
import Derived.DeepKeys4
namespace Go.Proofs.Ytnecipeckamiiaa.KWord
open Go Go.RowKit Go.Maps
theorem laidOut : laidOutB Try.prog = true := by kernel_rfl
theorem law : Keyed Try.prog 39 := Keyed.of_law (deep_law_laid laidOut (m := 2) (by decide) (of_decide_eq_true (by kernel_rfl)) (by kernel_rfl) (by kernel_rfl))
theorem kt : Try.prog.keyType 39 = true := by kernel_rfl
theorem cellsW : Try.prog.cellsOf 39 = 1 := by kernel_rfl
theorem cellsS : Try.prog.cellsOf 9 = 1 := by kernel_rfl
/-- How a word reads as a key. -/
def kl (s : ByteArray) : Lit := .string (keyBytes [.string s.data.toList])
theorem formedW (s : ByteArray) : Value.formed Try.prog 39 (.agg #[.string s]) = true := by
  unfold Value.formed
  rw [Try.underlying39]
  simp only [cellsW]
  rfl
theorem keyW (s : ByteArray) (h : s.size ≤ maxLen) : keyOf Try.prog 39 (.agg #[.string s]) = some (kl s) := by
  unfold keyOf
  rw [Try.underlying39]
  simp only [kt, formedW, Bool.true_and, if_true]
  have e : Try.prog.keyLits (Try.prog.types.size + 1) 39 (Value.agg #[Value.string s]).cells.toList = (if s.size ≤ maxLen then some [Lit.string s.data.toList] else none) := by
    have hn : ∃ n, Try.prog.types.size = n + 1 := ⟨74, by kernel_rfl⟩
    obtain ⟨n, hn⟩ := hn
    rw [hn]
    show Try.prog.keyLits (n + 1 + 1) 39 [.string s] = _
    by_cases h2 : s.size ≤ maxLen
    · simp [Program.keyLits, Try.underlying39, Try.underlying9, cellsW, cellsS, h2]
    · exact absurd h h2
  rw [e, if_pos h]
  rfl
theorem kl_inj {s t : ByteArray} (hs : s.size ≤ maxLen) (ht : t.size ≤ maxLen) (h : kl s = kl t) : s = t := by
  have h1 := law.inj (keyW s hs) (by rw [keyW t ht, h])
  have h2 := congrArg Value.cells h1
  simpa [Value.cells] using h2
end Go.Proofs.Ytnecipeckamiiaa.KWord
