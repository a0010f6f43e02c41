/-
  What the reference's Take of numbers answers.
-/
import Derived.Test.YtlhimfkhcdpciaaCRefTake
namespace Go.Proofs.Ytlhimfkhcdpciaa.WRefTake
open Go.RowKit Go.Proofs.YtlhimfkhcdpciaaW.PrintWords Go.Proofs.YtlhimfkhcdpciaaW.PrintLast Go.Proofs.YtlhimfkhcdpciaaW.PrintMore Go.Proofs.Ytlhimfkhcdpciaa.Num Go.Proofs.Ytlhimfkhcdpciaa.Bits Go.Proofs.Ytlhimfkhcdpciaa.VarM Go.Proofs.Ytlhimfkhcdpciaa.CGet64 Go.Proofs.Ytlhimfkhcdpciaa.Ints Go.Proofs.Ytlhimfkhcdpciaa.IntsT Go.Proofs.Ytlhimfkhcdpciaa.Hold Go.Proofs.Ytlhimfkhcdpciaa.CRef Go.Proofs.Ytlhimfkhcdpciaa.RVar Go.Proofs.Ytlhimfkhcdpciaa.CRefTake
open Go.Proofs.Ytlhimfkhcdpciaa.CTake2 (parts)
set_option linter.unusedVariables false
set_option linter.unusedSimpArgs false
attribute [local go_sem] max2_int min2_int max_two min_two max_three min_three max_four min_four

/-- What Take answers. -/
def Post (M : Option (List Int)) (w : World) (e : Ending) (w' : World) : Prop :=
  Below w.heap.size w w' ∧ match M with
    | none => e = .returned (.tuple #[.slice none 0 0, .int .i64 10])
    | some x => ∃ A' c', e = .returned (.tuple #[.slice A' x.length c', .int .i64 0]) ∧ x.length ≤ c' ∧ Kd.C (Kd.int .i64) w' A' x.length x
/-- What reading so far, and from here on, comes to. -/
def Now (T U : Option (List Int × List Int)) (acc : List Int) : Prop := T = U.map fun q => (acc ++ q.1, q.2)
theorem Now.none {T : Option (List Int × List Int)} {acc : List Int} (h : Now T Option.none acc) : T = Option.none := h
theorem Now.start {T : Option (List Int × List Int)} : Now T T [] := by cases T <;> rfl
theorem Now.step {T U : Option (List Int × List Int)} {acc : List Int} {x : Int} (h : Now T (U.map fun p => (x :: p.1, p.2)) acc) : Now T U (acc ++ [x]) := by
  unfold Now at h ⊢
  rw [h]
  cases U <;> simp
def Fin (T : Option (List Int × List Int)) (b : List Int) : Option (List Int) := (T.map Prod.fst).bind fun l => if put l = b then some l else none
theorem Fin.none {b : List Int} : Fin Option.none b = Option.none := rfl


end Go.Proofs.Ytlhimfkhcdpciaa.WRefTake
