-- Written by this session's own program (wip/mp, over the kit's print) for this claim; Lean checks it.
import Derived.Test.YtgiodeiibmbhhaaProg
import Derived.Below
import Derived.Deep.Draws
import Derived.Deep.AppendLies
import Derived.Maps.AppendAt
import Derived.OwnWalk
import Derived.Laws.BytesArg
import Derived.Laws.MakeOwn
import Derived.Laws.OwnMore
import Derived.Deep.OwnRows
import Derived.Tactics
import Derived.Lib.ConvBytes
import Derived.Laws.Slices
import Derived.WalkKit
import Derived.KernelRfl
import Derived.RowKit3
import Derived.Deep.LoopGhost
import Derived.Deep.QuietTactic
import Derived.BigQuiet
import Derived.WideLaws
import Derived.Deep.DeepCutAuto
import Derived.Deep.CutBlock
import Derived.Deep.RegionHeld3
import Derived.Laws.Rows
import Derived.Lib.AppendStr
import Derived.ArgAppend
import Derived.Laws.IdiomCopy
import Derived.OrdersHeld
import Derived.Laws.BitsLemmas
import Derived.RowKit
import Derived.WalkSpells
import Derived.Lib.SlBytesConst
import Derived.Test.YtgiodeiibmbhhaaWWords
import Derived.Test.YtgiodeiibmbhhaaWLast
import Derived.Test.YtgiodeiibmbhhaaWTab
import Derived.Test.YtgiodeiibmbhhaaWFour
import Derived.Test.YtgiodeiibmbhhaaWQPut
import Derived.Test.YtgiodeiibmbhhaaWApart
import Derived.Test.YtgiodeiibmbhhaaWArr
import Derived.Test.YtgiodeiibmbhhaaWZeros
import Derived.Test.YtgiodeiibmbhhaaWFoot
import Derived.Test.YtgiodeiibmbhhaaWKept
import Derived.Test.YtgiodeiibmbhhaaWShare
import Derived.Test.YtgiodeiibmbhhaaWN
import Derived.Test.YtgiodeiibmbhhaaWFootNe
import Derived.Test.YtgiodeiibmbhhaaWAt
import Derived.Test.YtgiodeiibmbhhaaWEqStruct
import Derived.Test.YtgiodeiibmbhhaaWRepsOne
import Derived.Test.YtgiodeiibmbhhaaWInv
import Derived.Test.YtgiodeiibmbhhaaWInvWords
import Derived.Test.YtgiodeiibmbhhaaWGuard
import Derived.Test.YtgiodeiibmbhhaaWNEv
import Derived.Test.YtgiodeiibmbhhaaWMore
namespace Go.Proofs.Ytgiodeiibmbhhaa.PFmWrites
open Go.RowKit Go.Proofs.YtgiodeiibmbhhaaW.PrintWords Go.Proofs.YtgiodeiibmbhhaaW.PrintLast Go.Proofs.YtgiodeiibmbhhaaW.PrintMore
attribute [local go_sem] max2_int min2_int max_two min_two max_three min_three max_four min_four   -- for this text's walks alone
set_option linter.unusedVariables false
set_option linter.unusedSimpArgs false



def errW : Option Int → Value
  | none => .nilIface
  | some c => .iface 0 (.int .i64 c)
theorem errW_none : errW none = .nilIface := rfl
theorem errW_some (c : Int) : errW (some c) = .iface 0 (.int .i64 c) := rfl

theorem info3 : (Try.prog.info? 3).map (fun i => (i.zero, i.size, i.bytes)) = some (some (.int .i64 0), 1, 8) := by kernel_rfl
theorem info4 : (Try.prog.info? 4).map (fun i => (i.zero, i.size, i.bytes)) = some (some (.bool false), 1, 1) := by kernel_rfl
theorem info5 : (Try.prog.info? 5).map (fun i => (i.zero, i.size, i.bytes)) = some (some (.int .u8 0), 1, 1) := by kernel_rfl
-- the values' own types

end Go.Proofs.Ytgiodeiibmbhhaa.PFmWrites
