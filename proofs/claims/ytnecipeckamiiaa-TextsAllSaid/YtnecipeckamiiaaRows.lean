/-
  No cell of these rows narrows 'for every input' (looked for: loops, veiled, ifaces, maps, wideKeys, modest, calm, conditions, laid).
  DERIVED. THE GIVEN ROWS OF THIS SEAT. 6 by the template 'for every input the law returns true; each argument reads behind the call as it read before'; 0 by the template 'total and deterministic' (their statements: YtnecipeckamiiaaTotals.lean).
  GIVEN WITH THE SEED: the statements are not yours to turn. If you find one false, say at which input.
  Laid BY PROGRAM, IN A SANDBOX (cutbox-rows.mjs): the forced cells as the released guide's own fill.sh prints them over the translation d5b3cdf9ef7c8acd… (all of the seat's roots in one cut). By AI agents, Wed Nov 11 2026. No macro, syntax, notation, axiom, sorry.
-/
import Derived.Test.YtnecipeckamiiaaChecked
import GoSem.Claim
import GoSem.ClaimJoined
import GoSem.ClaimMapViews
import Derived.JoinedTies
import Derived.KernelRfl
namespace Go.Proofs.Ytnecipeckamiiaa
/- THE CELL 'sum', in the pinned program and in every row, IS THE sha256 OF THE DUMP (.gsa) THAT YtnecipeckamiiaaProg.lean LOADS. Nothing in Lean hashes anything: it is a label: what it is worth is what the hold of that sum in a sandbox is worth. -/
noncomputable def Try.pinned : Pinned := { name := "ytnecipeckamiiaa", sum := "d5b3cdf9ef7c8acd921817f004585acc5239ea9796ec2244f24fb1a29472d1fe", checked := Try.checked }
namespace Rows
def none {H : Type} : Left H := { results := [], args := [] }

/-- 'thresherlaw06.TextsAgain': WHATEVER THE INPUT: true; the input reads as it did. -/
def textsAgainSpec : ChangeSpec := { name := "textsAgain", fn := fun _ => fun
  | [d1, d2] => { results := [.lit (.bool true)], args := [d1, d2] }
  | _ => none }
def textsAgainRow : OpenClaim := { program := "ytnecipeckamiiaa", sum := "d5b3cdf9ef7c8acd921817f004585acc5239ea9796ec2244f24fb1a29472d1fe", func := "thresher/thresherlaw06.TextsAgain", spec := "textsAgain", plainKeys := false, apart := false }
def TextsAgainSaid : Prop := textsAgainRow.holds Try.pinned (OpenSpec.ofChange textsAgainSpec)

/-- ITS FALSE NEIGHBOUR: 'it returns false'. Refute it at one input. -/
def textsAgainWrong : ChangeSpec := { name := "textsAgain", fn := fun _ => fun
  | [d1, d2] => { results := [.lit (.bool false)], args := [d1, d2] }
  | _ => none }
def TextsAgainWrongFalsely : Prop := textsAgainRow.holds Try.pinned (OpenSpec.ofChange textsAgainWrong)

/-- 'thresherlaw06.TextsLength': WHATEVER THE INPUT: true; the input reads as it did. -/
def textsLengthSpec : ChangeSpec := { name := "textsLength", fn := fun _ => fun
  | [d] => { results := [.lit (.bool true)], args := [d] }
  | _ => none }
def textsLengthRow : OpenClaim := { program := "ytnecipeckamiiaa", sum := "d5b3cdf9ef7c8acd921817f004585acc5239ea9796ec2244f24fb1a29472d1fe", func := "thresher/thresherlaw06.TextsLength", spec := "textsLength", plainKeys := false, apart := false }
def TextsLengthSaid : Prop := textsLengthRow.holds Try.pinned (OpenSpec.ofChange textsLengthSpec)

/-- ITS FALSE NEIGHBOUR: 'it returns false'. Refute it at one input. -/
def textsLengthWrong : ChangeSpec := { name := "textsLength", fn := fun _ => fun
  | [d] => { results := [.lit (.bool false)], args := [d] }
  | _ => none }
def TextsLengthWrongFalsely : Prop := textsLengthRow.holds Try.pinned (OpenSpec.ofChange textsLengthWrong)

/-- 'thresherlaw06.TextsPlaces': WHATEVER THE INPUT: true; the input reads as it did. -/
def textsPlacesSpec : ChangeSpec := { name := "textsPlaces", fn := fun _ => fun
  | [d] => { results := [.lit (.bool true)], args := [d] }
  | _ => none }
def textsPlacesRow : OpenClaim := { program := "ytnecipeckamiiaa", sum := "d5b3cdf9ef7c8acd921817f004585acc5239ea9796ec2244f24fb1a29472d1fe", func := "thresher/thresherlaw06.TextsPlaces", spec := "textsPlaces", plainKeys := false, apart := false }
def TextsPlacesSaid : Prop := textsPlacesRow.holds Try.pinned (OpenSpec.ofChange textsPlacesSpec)

/-- ITS FALSE NEIGHBOUR: 'it returns false'. Refute it at one input. -/
def textsPlacesWrong : ChangeSpec := { name := "textsPlaces", fn := fun _ => fun
  | [d] => { results := [.lit (.bool false)], args := [d] }
  | _ => none }
def TextsPlacesWrongFalsely : Prop := textsPlacesRow.holds Try.pinned (OpenSpec.ofChange textsPlacesWrong)

/-- 'thresherlaw06.TextsAll': WHATEVER THE INPUT: true; the input reads as it did. -/
def textsAllSpec : ChangeSpec := { name := "textsAll", fn := fun _ => fun
  | [d1, d2] => { results := [.lit (.bool true)], args := [d1, d2] }
  | _ => none }
def textsAllRow : OpenClaim := { program := "ytnecipeckamiiaa", sum := "d5b3cdf9ef7c8acd921817f004585acc5239ea9796ec2244f24fb1a29472d1fe", func := "thresher/thresherlaw06.TextsAll", spec := "textsAll", unfollowed := true, recurses := true, plainKeys := false, apart := false }
def TextsAllSaid : Prop := textsAllRow.holds Try.pinned (OpenSpec.ofChange textsAllSpec)

/-- ITS FALSE NEIGHBOUR: 'it returns false'. Refute it at one input. -/
def textsAllWrong : ChangeSpec := { name := "textsAll", fn := fun _ => fun
  | [d1, d2] => { results := [.lit (.bool false)], args := [d1, d2] }
  | _ => none }
def TextsAllWrongFalsely : Prop := textsAllRow.holds Try.pinned (OpenSpec.ofChange textsAllWrong)

/-- 'thresherlaw06.TextsBack': WHATEVER THE INPUT: true; the input reads as it did. -/
def textsBackSpec : ChangeSpec := { name := "textsBack", fn := fun _ => fun
  | [d1, d2, d3] => { results := [.lit (.bool true)], args := [d1, d2, d3] }
  | _ => none }
def textsBackRow : OpenClaim := { program := "ytnecipeckamiiaa", sum := "d5b3cdf9ef7c8acd921817f004585acc5239ea9796ec2244f24fb1a29472d1fe", func := "thresher/thresherlaw06.TextsBack", spec := "textsBack", unfollowed := true, recurses := true, plainKeys := false, apart := false }
def TextsBackSaid : Prop := textsBackRow.holds Try.pinned (OpenSpec.ofChange textsBackSpec)

/-- ITS FALSE NEIGHBOUR: 'it returns false'. Refute it at one input. -/
def textsBackWrong : ChangeSpec := { name := "textsBack", fn := fun _ => fun
  | [d1, d2, d3] => { results := [.lit (.bool false)], args := [d1, d2, d3] }
  | _ => none }
def TextsBackWrongFalsely : Prop := textsBackRow.holds Try.pinned (OpenSpec.ofChange textsBackWrong)

/-- 'thresherlaw06.TextsOne': WHATEVER THE INPUT: true; the input reads as it did. -/
def textsOneSpec : ChangeSpec := { name := "textsOne", fn := fun _ => fun
  | [d1, d2] => { results := [.lit (.bool true)], args := [d1, d2] }
  | _ => none }
def textsOneRow : OpenClaim := { program := "ytnecipeckamiiaa", sum := "d5b3cdf9ef7c8acd921817f004585acc5239ea9796ec2244f24fb1a29472d1fe", func := "thresher/thresherlaw06.TextsOne", spec := "textsOne", unfollowed := true, recurses := true, plainKeys := false, apart := false }
def TextsOneSaid : Prop := textsOneRow.holds Try.pinned (OpenSpec.ofChange textsOneSpec)

/-- ITS FALSE NEIGHBOUR: 'it returns false'. Refute it at one input. -/
def textsOneWrong : ChangeSpec := { name := "textsOne", fn := fun _ => fun
  | [d1, d2] => { results := [.lit (.bool false)], args := [d1, d2] }
  | _ => none }
def TextsOneWrongFalsely : Prop := textsOneRow.holds Try.pinned (OpenSpec.ofChange textsOneWrong)

/- THE SECOND FORM. 'bulk': how many values and letters a reading holds, each counted each time it is reached (what is shared counts as often as it is met; a slice's spare places count too). A statement '..UptoSaid' is the law's where the arguments, and the package variables that the reading takes, are together of bulk at most 1048576: NARROWER than '..Said'. Prove '..Said' where nothing that the law and all that it calls make is longer than what came in: it says more and counts as full. Else prove '..UptoSaid'. A law counts once. -/
mutual
def uptoBulk {H : Type} : DataW H → Nat
  | .lit (.string bytes) => bytes.length + 1
  | .lit _ => 1
  | .nil => 1
  | .ptr d => uptoBulk d + 1
  | .slice elems spare => uptoBulkAll elems + uptoBulkAll spare + 1
  | .agg parts => uptoBulkAll parts + 1
  | .iface _ d => uptoBulk d + 1
  | .map entries => uptoBulkEntries entries + 1
  | .held _ => 1
def uptoBulkAll {H : Type} : List (DataW H) → Nat
  | [] => 0
  | d :: r => uptoBulk d + uptoBulkAll r
def uptoBulkEntries {H : Type} : List (Lit × DataW H) → Nat
  | [] => 0
  | x :: r => uptoBulkEntry x + uptoBulkEntries r
def uptoBulkEntry {H : Type} : Lit × DataW H → Nat
  | (.string bytes, d) => bytes.length + uptoBulk d + 1
  | (_, d) => uptoBulk d + 1
 end
def uptoSmall : (H : Type) → List (DataW H) → Bool := fun _ ds => decide (uptoBulkAll ds ≤ 1048576)
def OpenSpec.upto (s : _root_.Go.ChangeSpec) : _root_.Go.OpenSpec := { _root_.Go.OpenSpec.ofChange s with cond := some uptoSmall }

/-- 'thresherlaw06.TextsAgain', WHERE WHAT IT READS IS OF BULK AT MOST 1048576: true; the input reads as it did. -/
def textsAgainUptoRow : OpenClaim := { program := "ytnecipeckamiiaa", sum := "d5b3cdf9ef7c8acd921817f004585acc5239ea9796ec2244f24fb1a29472d1fe", func := "thresher/thresherlaw06.TextsAgain", spec := "textsAgain", plainKeys := false, apart := false, narrowed := true }
def TextsAgainUptoSaid : Prop := textsAgainUptoRow.holds Try.pinned (OpenSpec.upto textsAgainSpec)

/-- 'thresherlaw06.TextsLength', WHERE WHAT IT READS IS OF BULK AT MOST 1048576: true; the input reads as it did. -/
def textsLengthUptoRow : OpenClaim := { program := "ytnecipeckamiiaa", sum := "d5b3cdf9ef7c8acd921817f004585acc5239ea9796ec2244f24fb1a29472d1fe", func := "thresher/thresherlaw06.TextsLength", spec := "textsLength", plainKeys := false, apart := false, narrowed := true }
def TextsLengthUptoSaid : Prop := textsLengthUptoRow.holds Try.pinned (OpenSpec.upto textsLengthSpec)

/-- 'thresherlaw06.TextsPlaces', WHERE WHAT IT READS IS OF BULK AT MOST 1048576: true; the input reads as it did. -/
def textsPlacesUptoRow : OpenClaim := { program := "ytnecipeckamiiaa", sum := "d5b3cdf9ef7c8acd921817f004585acc5239ea9796ec2244f24fb1a29472d1fe", func := "thresher/thresherlaw06.TextsPlaces", spec := "textsPlaces", plainKeys := false, apart := false, narrowed := true }
def TextsPlacesUptoSaid : Prop := textsPlacesUptoRow.holds Try.pinned (OpenSpec.upto textsPlacesSpec)

/-- 'thresherlaw06.TextsAll', WHERE WHAT IT READS IS OF BULK AT MOST 1048576: true; the input reads as it did. -/
def textsAllUptoRow : OpenClaim := { program := "ytnecipeckamiiaa", sum := "d5b3cdf9ef7c8acd921817f004585acc5239ea9796ec2244f24fb1a29472d1fe", func := "thresher/thresherlaw06.TextsAll", spec := "textsAll", unfollowed := true, recurses := true, plainKeys := false, apart := false, narrowed := true }
def TextsAllUptoSaid : Prop := textsAllUptoRow.holds Try.pinned (OpenSpec.upto textsAllSpec)

/-- 'thresherlaw06.TextsBack', WHERE WHAT IT READS IS OF BULK AT MOST 1048576: true; the input reads as it did. -/
def textsBackUptoRow : OpenClaim := { program := "ytnecipeckamiiaa", sum := "d5b3cdf9ef7c8acd921817f004585acc5239ea9796ec2244f24fb1a29472d1fe", func := "thresher/thresherlaw06.TextsBack", spec := "textsBack", unfollowed := true, recurses := true, plainKeys := false, apart := false, narrowed := true }
def TextsBackUptoSaid : Prop := textsBackUptoRow.holds Try.pinned (OpenSpec.upto textsBackSpec)

/-- 'thresherlaw06.TextsOne', WHERE WHAT IT READS IS OF BULK AT MOST 1048576: true; the input reads as it did. -/
def textsOneUptoRow : OpenClaim := { program := "ytnecipeckamiiaa", sum := "d5b3cdf9ef7c8acd921817f004585acc5239ea9796ec2244f24fb1a29472d1fe", func := "thresher/thresherlaw06.TextsOne", spec := "textsOne", unfollowed := true, recurses := true, plainKeys := false, apart := false, narrowed := true }
def TextsOneUptoSaid : Prop := textsOneUptoRow.holds Try.pinned (OpenSpec.upto textsOneSpec)

end Rows
end Go.Proofs.Ytnecipeckamiiaa
