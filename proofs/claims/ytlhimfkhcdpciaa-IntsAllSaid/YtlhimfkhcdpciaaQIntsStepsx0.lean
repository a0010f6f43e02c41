/- Contracts of functions that the law IntsSteps reaches: made by a program of mine out of the kit's print, with steps of my own. -/
import Derived.Test.YtlhimfkhcdpciaaProg
import Derived.Below
import Derived.Deep.Draws
import Derived.Deep.AppendLies
import Derived.Maps.AppendAt
import Derived.OwnWalk
import Derived.Laws.BytesArg
import Derived.Laws.MakeOwn
import Derived.Laws.OwnMore
import Derived.Deep.OwnRows
import Derived.Tactics
import Derived.Lib.ConvBytes
import Derived.Laws.Slices
import Derived.WalkKit
import Derived.KernelRfl
import Derived.RowKit3
import Derived.Deep.LoopGhost
import Derived.Deep.QuietTactic
import Derived.BigQuiet
import Derived.WideLaws
import Derived.Deep.DeepCutAuto
import Derived.Deep.CutBlock
import Derived.Deep.RegionHeld3
import Derived.Laws.Rows
import Derived.Lib.AppendStr
import Derived.ArgAppend
import Derived.Laws.IdiomCopy
import Derived.OrdersHeld
import Derived.Laws.BitsLemmas
import Derived.RowKit
import Derived.Test.YtlhimfkhcdpciaaWWords
import Derived.Test.YtlhimfkhcdpciaaWLast
import Derived.Test.YtlhimfkhcdpciaaWTab
import Derived.Test.YtlhimfkhcdpciaaWFour
import Derived.Test.YtlhimfkhcdpciaaWQPut
import Derived.Test.YtlhimfkhcdpciaaWApart
import Derived.Test.YtlhimfkhcdpciaaWArr
import Derived.Test.YtlhimfkhcdpciaaWZeros
import Derived.Test.YtlhimfkhcdpciaaWFoot
import Derived.Test.YtlhimfkhcdpciaaWKept
import Derived.Test.YtlhimfkhcdpciaaWShare
import Derived.Test.YtlhimfkhcdpciaaWN
import Derived.Test.YtlhimfkhcdpciaaWFootNe
import Derived.Test.YtlhimfkhcdpciaaWAt
import Derived.Test.YtlhimfkhcdpciaaWEqStruct
import Derived.Test.YtlhimfkhcdpciaaWRepsOne
import Derived.Test.YtlhimfkhcdpciaaWInv
import Derived.Test.YtlhimfkhcdpciaaWInvWords
import Derived.Test.YtlhimfkhcdpciaaWGuard
import Derived.Test.YtlhimfkhcdpciaaWNEv
import Derived.Test.YtlhimfkhcdpciaaWMore
namespace Go.Proofs.Ytlhimfkhcdpciaa.QIntsSteps
open Go.RowKit Go.Proofs.YtlhimfkhcdpciaaW.PrintWords Go.Proofs.YtlhimfkhcdpciaaW.PrintLast Go.Proofs.YtlhimfkhcdpciaaW.PrintMore
attribute [local go_sem] max2_int min2_int max_two min_two max_three min_three max_four min_four   -- for this text's walks alone
set_option linter.unusedVariables false
set_option linter.unusedSimpArgs false



def errW : Option Int → Value
  | none => .nilIface
  | some c => .iface 0 (.int .i64 c)
theorem errW_none : errW none = .nilIface := rfl
theorem errW_some (c : Int) : errW (some c) = .iface 0 (.int .i64 c) := rfl

theorem info2 : (Try.prog.info? 2).map (fun i => (i.zero, i.size, i.bytes)) = some (some (.int .i64 0), 1, 8) := by kernel_rfl
theorem info5 : (Try.prog.info? 5).map (fun i => (i.zero, i.size, i.bytes)) = some (some (.int .u8 0), 1, 1) := by kernel_rfl
-- the values' own types

end Go.Proofs.Ytlhimfkhcdpciaa.QIntsSteps
