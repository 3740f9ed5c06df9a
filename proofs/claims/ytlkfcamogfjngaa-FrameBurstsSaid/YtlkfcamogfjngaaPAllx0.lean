/- Contracts of Go functions, laid by a program of this session (wip/prpatch.py): each call returns what the Lean function of the same name tells. The conditions stand in each theorem. -/
import Derived.Test.YtlkfcamogfjngaaProg
import Derived.Below
import Derived.Deep.Draws
import Derived.Deep.AppendLies
import Derived.Maps.AppendAt
import Derived.OwnWalk
import Derived.Laws.BytesArg
import Derived.Laws.MakeOwn
import Derived.Laws.OwnMore
import Derived.Deep.OwnRows
import Derived.Tactics
import Derived.Lib.ConvBytes
import Derived.Laws.Slices
import Derived.WalkKit
import Derived.KernelRfl
import Derived.RowKit3
import Derived.Deep.LoopGhost
import Derived.Deep.QuietTactic
import Derived.BigQuiet
import Derived.WideLaws
import Derived.Deep.DeepCutAuto
import Derived.Deep.CutBlock
import Derived.Deep.RegionHeld3
import Derived.Laws.Rows
import Derived.Lib.AppendStr
import Derived.ArgAppend
import Derived.Laws.IdiomCopy
import Derived.OrdersHeld
import Derived.Laws.BitsLemmas
import Derived.RowKit
import Derived.Test.YtlkfcamogfjngaaWWords
import Derived.Test.YtlkfcamogfjngaaWLast
import Derived.Test.YtlkfcamogfjngaaWTab
import Derived.Test.YtlkfcamogfjngaaWFour
import Derived.Test.YtlkfcamogfjngaaWQPut
import Derived.Test.YtlkfcamogfjngaaWApart
import Derived.Test.YtlkfcamogfjngaaWArr
import Derived.Test.YtlkfcamogfjngaaWZeros
import Derived.Test.YtlkfcamogfjngaaWFoot
import Derived.Test.YtlkfcamogfjngaaWKept
import Derived.Test.YtlkfcamogfjngaaWShare
import Derived.Test.YtlkfcamogfjngaaWN
import Derived.Test.YtlkfcamogfjngaaWFootNe
import Derived.Test.YtlkfcamogfjngaaWAt
import Derived.Test.YtlkfcamogfjngaaWEqStruct
import Derived.Test.YtlkfcamogfjngaaWRepsOne
import Derived.Test.YtlkfcamogfjngaaWInv
import Derived.Test.YtlkfcamogfjngaaWInvWords
import Derived.Test.YtlkfcamogfjngaaWGuard
import Derived.Test.YtlkfcamogfjngaaWNEv
import Derived.Test.YtlkfcamogfjngaaWMore
namespace Go.Proofs.Ytlkfcamogfjngaa.PAll
open Go.RowKit Go.Proofs.YtlkfcamogfjngaaW.PrintWords Go.Proofs.YtlkfcamogfjngaaW.PrintLast Go.Proofs.YtlkfcamogfjngaaW.PrintMore
attribute [local go_sem] max2_int min2_int max_two min_two max_three min_three max_four min_four   -- for this text's walks alone
set_option linter.unusedVariables false
set_option linter.unusedSimpArgs false



def errW : Option Int → Value
  | none => .nilIface
  | some c => .iface 0 (.int .i64 c)
theorem errW_none : errW none = .nilIface := rfl
theorem errW_some (c : Int) : errW (some c) = .iface 0 (.int .i64 c) := rfl

theorem info5 : (Try.prog.info? 5).map (fun i => (i.zero, i.size, i.bytes)) = some (some (.int .u8 0), 1, 1) := by kernel_rfl
-- the values' own types

end Go.Proofs.Ytlkfcamogfjngaa.PAll
