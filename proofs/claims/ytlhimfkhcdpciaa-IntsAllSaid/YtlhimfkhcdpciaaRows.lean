/-
  No cell of these rows narrows 'for every input' (looked for: loops, veiled, ifaces, maps, wideKeys, modest, calm, conditions, laid).
  DERIVED. THE GIVEN ROWS OF THIS SEAT. 6 by the template 'for every input the law returns true; each argument reads behind the call as it read before'; 0 by the template 'total and deterministic' (their statements: YtlhimfkhcdpciaaTotals.lean).
  GIVEN WITH THE SEED: the statements are not yours to turn. If you find one false, say at which input.
  Laid BY PROGRAM, IN A SANDBOX (cutbox-rows.mjs): the forced cells as the released guide's own fill.sh prints them over the translation 2d61b60232e1283b… (all of the seat's roots in one cut). By AI agents, Wed Nov 11 2026. No macro, syntax, notation, axiom, sorry.
-/
import Derived.Test.YtlhimfkhcdpciaaChecked
import GoSem.Claim
import GoSem.ClaimJoined
import GoSem.ClaimMapViews
import Derived.JoinedTies
import Derived.KernelRfl
namespace Go.Proofs.Ytlhimfkhcdpciaa
/- THE CELL 'sum', in the pinned program and in every row, IS THE sha256 OF THE DUMP (.gsa) THAT YtlhimfkhcdpciaaProg.lean LOADS. Nothing in Lean hashes anything: it is a label: what it is worth is what the hold of that sum in a sandbox is worth. -/
noncomputable def Try.pinned : Pinned := { name := "ytlhimfkhcdpciaa", sum := "2d61b60232e1283b46a43e108ab56a74779a6d6845fb2f64e1aa62854ce2d322", checked := Try.checked }
namespace Rows
def none {H : Type} : Left H := { results := [], args := [] }

/-- 'thresherlaw05.IntsSteps': WHATEVER THE INPUT: true; the input reads as it did. -/
def intsStepsSpec : ChangeSpec := { name := "intsSteps", fn := fun _ => fun
  | [d1, d2, d3] => { results := [.lit (.bool true)], args := [d1, d2, d3] }
  | _ => none }
def intsStepsRow : OpenClaim := { program := "ytlhimfkhcdpciaa", sum := "2d61b60232e1283b46a43e108ab56a74779a6d6845fb2f64e1aa62854ce2d322", func := "thresher/thresherlaw05.IntsSteps", spec := "intsSteps", apart := false }
def IntsStepsSaid : Prop := intsStepsRow.holds Try.pinned (OpenSpec.ofChange intsStepsSpec)

/-- ITS FALSE NEIGHBOUR: 'it returns false'. Refute it at one input. -/
def intsStepsWrong : ChangeSpec := { name := "intsSteps", fn := fun _ => fun
  | [d1, d2, d3] => { results := [.lit (.bool false)], args := [d1, d2, d3] }
  | _ => none }
def IntsStepsWrongFalsely : Prop := intsStepsRow.holds Try.pinned (OpenSpec.ofChange intsStepsWrong)

/-- 'thresherlaw05.IntsLength': WHATEVER THE INPUT: true; the input reads as it did. -/
def intsLengthSpec : ChangeSpec := { name := "intsLength", fn := fun _ => fun
  | [d] => { results := [.lit (.bool true)], args := [d] }
  | _ => none }
def intsLengthRow : OpenClaim := { program := "ytlhimfkhcdpciaa", sum := "2d61b60232e1283b46a43e108ab56a74779a6d6845fb2f64e1aa62854ce2d322", func := "thresher/thresherlaw05.IntsLength", spec := "intsLength", apart := false }
def IntsLengthSaid : Prop := intsLengthRow.holds Try.pinned (OpenSpec.ofChange intsLengthSpec)

/-- ITS FALSE NEIGHBOUR: 'it returns false'. Refute it at one input. -/
def intsLengthWrong : ChangeSpec := { name := "intsLength", fn := fun _ => fun
  | [d] => { results := [.lit (.bool false)], args := [d] }
  | _ => none }
def IntsLengthWrongFalsely : Prop := intsLengthRow.holds Try.pinned (OpenSpec.ofChange intsLengthWrong)

/-- 'thresherlaw05.IntsBegins': WHATEVER THE INPUT: true; the input reads as it did. -/
def intsBeginsSpec : ChangeSpec := { name := "intsBegins", fn := fun _ => fun
  | [d1, d2] => { results := [.lit (.bool true)], args := [d1, d2] }
  | _ => none }
def intsBeginsRow : OpenClaim := { program := "ytlhimfkhcdpciaa", sum := "2d61b60232e1283b46a43e108ab56a74779a6d6845fb2f64e1aa62854ce2d322", func := "thresher/thresherlaw05.IntsBegins", spec := "intsBegins", apart := false }
def IntsBeginsSaid : Prop := intsBeginsRow.holds Try.pinned (OpenSpec.ofChange intsBeginsSpec)

/-- ITS FALSE NEIGHBOUR: 'it returns false'. Refute it at one input. -/
def intsBeginsWrong : ChangeSpec := { name := "intsBegins", fn := fun _ => fun
  | [d1, d2] => { results := [.lit (.bool false)], args := [d1, d2] }
  | _ => none }
def IntsBeginsWrongFalsely : Prop := intsBeginsRow.holds Try.pinned (OpenSpec.ofChange intsBeginsWrong)

/-- 'thresherlaw05.IntsAll': WHATEVER THE INPUT: true; the input reads as it did. -/
def intsAllSpec : ChangeSpec := { name := "intsAll", fn := fun _ => fun
  | [d1, d2] => { results := [.lit (.bool true)], args := [d1, d2] }
  | _ => none }
def intsAllRow : OpenClaim := { program := "ytlhimfkhcdpciaa", sum := "2d61b60232e1283b46a43e108ab56a74779a6d6845fb2f64e1aa62854ce2d322", func := "thresher/thresherlaw05.IntsAll", spec := "intsAll", unfollowed := true, recurses := true, apart := false }
def IntsAllSaid : Prop := intsAllRow.holds Try.pinned (OpenSpec.ofChange intsAllSpec)

/-- ITS FALSE NEIGHBOUR: 'it returns false'. Refute it at one input. -/
def intsAllWrong : ChangeSpec := { name := "intsAll", fn := fun _ => fun
  | [d1, d2] => { results := [.lit (.bool false)], args := [d1, d2] }
  | _ => none }
def IntsAllWrongFalsely : Prop := intsAllRow.holds Try.pinned (OpenSpec.ofChange intsAllWrong)

/-- 'thresherlaw05.IntsBack': WHATEVER THE INPUT: true; the input reads as it did. -/
def intsBackSpec : ChangeSpec := { name := "intsBack", fn := fun _ => fun
  | [d1, d2, d3] => { results := [.lit (.bool true)], args := [d1, d2, d3] }
  | _ => none }
def intsBackRow : OpenClaim := { program := "ytlhimfkhcdpciaa", sum := "2d61b60232e1283b46a43e108ab56a74779a6d6845fb2f64e1aa62854ce2d322", func := "thresher/thresherlaw05.IntsBack", spec := "intsBack", unfollowed := true, recurses := true, apart := false }
def IntsBackSaid : Prop := intsBackRow.holds Try.pinned (OpenSpec.ofChange intsBackSpec)

/-- ITS FALSE NEIGHBOUR: 'it returns false'. Refute it at one input. -/
def intsBackWrong : ChangeSpec := { name := "intsBack", fn := fun _ => fun
  | [d1, d2, d3] => { results := [.lit (.bool false)], args := [d1, d2, d3] }
  | _ => none }
def IntsBackWrongFalsely : Prop := intsBackRow.holds Try.pinned (OpenSpec.ofChange intsBackWrong)

/-- 'thresherlaw05.IntsOne': WHATEVER THE INPUT: true; the input reads as it did. -/
def intsOneSpec : ChangeSpec := { name := "intsOne", fn := fun _ => fun
  | [d] => { results := [.lit (.bool true)], args := [d] }
  | _ => none }
def intsOneRow : OpenClaim := { program := "ytlhimfkhcdpciaa", sum := "2d61b60232e1283b46a43e108ab56a74779a6d6845fb2f64e1aa62854ce2d322", func := "thresher/thresherlaw05.IntsOne", spec := "intsOne", unfollowed := true, recurses := true, apart := false }
def IntsOneSaid : Prop := intsOneRow.holds Try.pinned (OpenSpec.ofChange intsOneSpec)

/-- ITS FALSE NEIGHBOUR: 'it returns false'. Refute it at one input. -/
def intsOneWrong : ChangeSpec := { name := "intsOne", fn := fun _ => fun
  | [d] => { results := [.lit (.bool false)], args := [d] }
  | _ => none }
def IntsOneWrongFalsely : Prop := intsOneRow.holds Try.pinned (OpenSpec.ofChange intsOneWrong)

/- THE SECOND FORM. 'bulk': how many values and letters a reading holds, each counted each time it is reached (what is shared counts as often as it is met; a slice's spare places count too). A statement '..UptoSaid' is the law's where the arguments, and the package variables that the reading takes, are together of bulk at most 1048576: NARROWER than '..Said'. Prove '..Said' where nothing that the law and all that it calls make is longer than what came in: it says more and counts as full. Else prove '..UptoSaid'. A law counts once. -/
mutual
def uptoBulk {H : Type} : DataW H → Nat
  | .lit (.string bytes) => bytes.length + 1
  | .lit _ => 1
  | .nil => 1
  | .ptr d => uptoBulk d + 1
  | .slice elems spare => uptoBulkAll elems + uptoBulkAll spare + 1
  | .agg parts => uptoBulkAll parts + 1
  | .iface _ d => uptoBulk d + 1
  | .map entries => uptoBulkEntries entries + 1
  | .held _ => 1
def uptoBulkAll {H : Type} : List (DataW H) → Nat
  | [] => 0
  | d :: r => uptoBulk d + uptoBulkAll r
def uptoBulkEntries {H : Type} : List (Lit × DataW H) → Nat
  | [] => 0
  | x :: r => uptoBulkEntry x + uptoBulkEntries r
def uptoBulkEntry {H : Type} : Lit × DataW H → Nat
  | (.string bytes, d) => bytes.length + uptoBulk d + 1
  | (_, d) => uptoBulk d + 1
 end
def uptoSmall : (H : Type) → List (DataW H) → Bool := fun _ ds => decide (uptoBulkAll ds ≤ 1048576)
def OpenSpec.upto (s : _root_.Go.ChangeSpec) : _root_.Go.OpenSpec := { _root_.Go.OpenSpec.ofChange s with cond := some uptoSmall }

/-- 'thresherlaw05.IntsSteps', WHERE WHAT IT READS IS OF BULK AT MOST 1048576: true; the input reads as it did. -/
def intsStepsUptoRow : OpenClaim := { program := "ytlhimfkhcdpciaa", sum := "2d61b60232e1283b46a43e108ab56a74779a6d6845fb2f64e1aa62854ce2d322", func := "thresher/thresherlaw05.IntsSteps", spec := "intsSteps", apart := false, narrowed := true }
def IntsStepsUptoSaid : Prop := intsStepsUptoRow.holds Try.pinned (OpenSpec.upto intsStepsSpec)

/-- 'thresherlaw05.IntsLength', WHERE WHAT IT READS IS OF BULK AT MOST 1048576: true; the input reads as it did. -/
def intsLengthUptoRow : OpenClaim := { program := "ytlhimfkhcdpciaa", sum := "2d61b60232e1283b46a43e108ab56a74779a6d6845fb2f64e1aa62854ce2d322", func := "thresher/thresherlaw05.IntsLength", spec := "intsLength", apart := false, narrowed := true }
def IntsLengthUptoSaid : Prop := intsLengthUptoRow.holds Try.pinned (OpenSpec.upto intsLengthSpec)

/-- 'thresherlaw05.IntsBegins', WHERE WHAT IT READS IS OF BULK AT MOST 1048576: true; the input reads as it did. -/
def intsBeginsUptoRow : OpenClaim := { program := "ytlhimfkhcdpciaa", sum := "2d61b60232e1283b46a43e108ab56a74779a6d6845fb2f64e1aa62854ce2d322", func := "thresher/thresherlaw05.IntsBegins", spec := "intsBegins", apart := false, narrowed := true }
def IntsBeginsUptoSaid : Prop := intsBeginsUptoRow.holds Try.pinned (OpenSpec.upto intsBeginsSpec)

/-- 'thresherlaw05.IntsAll', WHERE WHAT IT READS IS OF BULK AT MOST 1048576: true; the input reads as it did. -/
def intsAllUptoRow : OpenClaim := { program := "ytlhimfkhcdpciaa", sum := "2d61b60232e1283b46a43e108ab56a74779a6d6845fb2f64e1aa62854ce2d322", func := "thresher/thresherlaw05.IntsAll", spec := "intsAll", unfollowed := true, recurses := true, apart := false, narrowed := true }
def IntsAllUptoSaid : Prop := intsAllUptoRow.holds Try.pinned (OpenSpec.upto intsAllSpec)

/-- 'thresherlaw05.IntsBack', WHERE WHAT IT READS IS OF BULK AT MOST 1048576: true; the input reads as it did. -/
def intsBackUptoRow : OpenClaim := { program := "ytlhimfkhcdpciaa", sum := "2d61b60232e1283b46a43e108ab56a74779a6d6845fb2f64e1aa62854ce2d322", func := "thresher/thresherlaw05.IntsBack", spec := "intsBack", unfollowed := true, recurses := true, apart := false, narrowed := true }
def IntsBackUptoSaid : Prop := intsBackUptoRow.holds Try.pinned (OpenSpec.upto intsBackSpec)

/-- 'thresherlaw05.IntsOne', WHERE WHAT IT READS IS OF BULK AT MOST 1048576: true; the input reads as it did. -/
def intsOneUptoRow : OpenClaim := { program := "ytlhimfkhcdpciaa", sum := "2d61b60232e1283b46a43e108ab56a74779a6d6845fb2f64e1aa62854ce2d322", func := "thresher/thresherlaw05.IntsOne", spec := "intsOne", unfollowed := true, recurses := true, apart := false, narrowed := true }
def IntsOneUptoSaid : Prop := intsOneUptoRow.holds Try.pinned (OpenSpec.upto intsOneSpec)

end Rows
end Go.Proofs.Ytlhimfkhcdpciaa
