/- Contracts of functions that the law TextsAll reaches: made by a program of mine out of the kit's print, with steps of my own. -/
import Derived.Test.YtnecipeckamiiaaProg
import Derived.Below
import Derived.Deep.Draws
import Derived.Deep.AppendLies
import Derived.Maps.AppendAt
import Derived.OwnWalk
import Derived.Laws.BytesArg
import Derived.Laws.MakeOwn
import Derived.Laws.OwnMore
import Derived.Deep.OwnRows
import Derived.Tactics
import Derived.Lib.ConvBytes
import Derived.Laws.Slices
import Derived.WalkKit
import Derived.KernelRfl
import Derived.RowKit3
import Derived.Deep.LoopGhost
import Derived.Deep.QuietTactic
import Derived.BigQuiet
import Derived.WideLaws
import Derived.Deep.DeepCutAuto
import Derived.Deep.CutBlock
import Derived.Deep.RegionHeld3
import Derived.Laws.Rows
import Derived.Lib.AppendStr
import Derived.ArgAppend
import Derived.Laws.IdiomCopy
import Derived.OrdersHeld
import Derived.Laws.BitsLemmas
import Derived.RowKit
import Derived.Test.YtnecipeckamiiaaWWords
import Derived.Test.YtnecipeckamiiaaWLast
import Derived.Test.YtnecipeckamiiaaWTab
import Derived.Test.YtnecipeckamiiaaWFour
import Derived.Test.YtnecipeckamiiaaWQPut
import Derived.Test.YtnecipeckamiiaaWApart
import Derived.Test.YtnecipeckamiiaaWArr
import Derived.Test.YtnecipeckamiiaaWZeros
import Derived.Test.YtnecipeckamiiaaWFoot
import Derived.Test.YtnecipeckamiiaaWKept
import Derived.Test.YtnecipeckamiiaaWShare
import Derived.Test.YtnecipeckamiiaaWN
import Derived.Test.YtnecipeckamiiaaWFootNe
import Derived.Test.YtnecipeckamiiaaWAt
import Derived.Test.YtnecipeckamiiaaWEqStruct
import Derived.Test.YtnecipeckamiiaaWRepsOne
import Derived.Test.YtnecipeckamiiaaWInv
import Derived.Test.YtnecipeckamiiaaWInvWords
import Derived.Test.YtnecipeckamiiaaWGuard
import Derived.Test.YtnecipeckamiiaaWNEv
import Derived.Test.YtnecipeckamiiaaWMore
namespace Go.Proofs.Ytnecipeckamiiaa.QTextsAll
open Go.RowKit Go.Proofs.YtnecipeckamiiaaW.PrintWords Go.Proofs.YtnecipeckamiiaaW.PrintLast Go.Proofs.YtnecipeckamiiaaW.PrintMore
attribute [local go_sem] max2_int min2_int max_two min_two max_three min_three max_four min_four   -- for this text's walks alone
set_option linter.unusedVariables false
set_option linter.unusedSimpArgs false



def errW : Option Int → Value
  | none => .nilIface
  | some c => .iface 0 (.int .i64 c)
theorem errW_none : errW none = .nilIface := rfl
theorem errW_some (c : Int) : errW (some c) = .iface 0 (.int .i64 c) := rfl

theorem info5 : (Try.prog.info? 5).map (fun i => (i.zero, i.size, i.bytes)) = some (some (.int .u8 0), 1, 1) := by kernel_rfl
theorem info9 : (Try.prog.info? 9).map (fun i => (i.zero, i.size, i.bytes)) = some (some (.string ⟨#[]⟩), 1, 16) := by kernel_rfl
-- the values' own types

end Go.Proofs.Ytnecipeckamiiaa.QTextsAll
