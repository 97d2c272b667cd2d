/- Cells and sizes of the types that the walk meets. No condition. Printed by a changed copy of the kit's printer in this session: not print.sh's own text. -/
import Derived.Test.YtgikmhpggfmcnaaProg
import Derived.Below
import Derived.Deep.Draws
import Derived.Deep.AppendLies
import Derived.Maps.AppendAt
import Derived.OwnWalk
import Derived.Laws.BytesArg
import Derived.Laws.MakeOwn
import Derived.Laws.OwnMore
import Derived.Deep.OwnRows
import Derived.Tactics
import Derived.Lib.ConvBytes
import Derived.Laws.Slices
import Derived.WalkKit
import Derived.KernelRfl
import Derived.RowKit3
import Derived.Deep.LoopGhost
import Derived.Deep.QuietTactic
import Derived.BigQuiet
import Derived.WideLaws
import Derived.Deep.DeepCutAuto
import Derived.Deep.CutBlock
import Derived.Deep.RegionHeld3
import Derived.Laws.Rows
import Derived.Lib.AppendStr
import Derived.ArgAppend
import Derived.Laws.IdiomCopy
import Derived.OrdersHeld
import Derived.Laws.BitsLemmas
import Derived.RowKit
import Derived.Test.YtgikmhpggfmcnaaWWords
import Derived.Test.YtgikmhpggfmcnaaWLast
import Derived.Test.YtgikmhpggfmcnaaWTab
import Derived.Test.YtgikmhpggfmcnaaWFour
import Derived.Test.YtgikmhpggfmcnaaWQPut
import Derived.Test.YtgikmhpggfmcnaaWApart
import Derived.Test.YtgikmhpggfmcnaaWArr
import Derived.Test.YtgikmhpggfmcnaaWZeros
import Derived.Test.YtgikmhpggfmcnaaWFoot
import Derived.Test.YtgikmhpggfmcnaaWKept
import Derived.Test.YtgikmhpggfmcnaaWShare
import Derived.Test.YtgikmhpggfmcnaaWN
import Derived.Test.YtgikmhpggfmcnaaWFootNe
import Derived.Test.YtgikmhpggfmcnaaWAt
import Derived.Test.YtgikmhpggfmcnaaWEqStruct
import Derived.Test.YtgikmhpggfmcnaaWRepsOne
import Derived.Test.YtgikmhpggfmcnaaWInv
import Derived.Test.YtgikmhpggfmcnaaWInvWords
import Derived.Test.YtgikmhpggfmcnaaWGuard
import Derived.Test.YtgikmhpggfmcnaaWNEv
import Derived.Test.YtgikmhpggfmcnaaWMore
namespace Go.Proofs.Ytgikmhpggfmcnaa.PWatchpointWords
open Go.RowKit Go.Proofs.YtgikmhpggfmcnaaW.PrintWords Go.Proofs.YtgikmhpggfmcnaaW.PrintLast Go.Proofs.YtgikmhpggfmcnaaW.PrintMore
attribute [local go_sem] max2_int min2_int max_two min_two max_three min_three max_four min_four   -- for this text's walks alone
set_option linter.unusedVariables false
set_option linter.unusedSimpArgs false



def errW : Option Int → Value
  | none => .nilIface
  | some c => .iface 0 (.int .i64 c)
theorem errW_none : errW none = .nilIface := rfl
theorem errW_some (c : Int) : errW (some c) = .iface 0 (.int .i64 c) := rfl

theorem info3 : (Try.prog.info? 3).map (fun i => (i.zero, i.size, i.bytes)) = some (some (.int .i64 0), 1, 8) := by kernel_rfl
theorem info4 : (Try.prog.info? 4).map (fun i => (i.zero, i.size, i.bytes)) = some (some (.bool false), 1, 1) := by kernel_rfl
-- the values' own types

end Go.Proofs.Ytgikmhpggfmcnaa.PWatchpointWords
