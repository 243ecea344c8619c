/- Written by a program of this session (wip/tools/xprint.py over the kit's printer): functions of the program as plain Lean functions, each with the proof that the machine's call comes to them. -/
import Derived.Test.YtekifiblehmafaaDoorProg
import Derived.Below
import Derived.Deep.Draws
import Derived.Deep.AppendLies
import Derived.Maps.AppendAt
import Derived.OwnWalk
import Derived.Laws.BytesArg
import Derived.Laws.MakeOwn
import Derived.Laws.OwnMore
import Derived.Deep.OwnRows
import Derived.Tactics
import Derived.Lib.ConvBytes
import Derived.Laws.Slices
import Derived.WalkKit
import Derived.KernelRfl
import Derived.RowKit3
import Derived.Deep.LoopGhost
import Derived.Deep.QuietTactic
import Derived.BigQuiet
import Derived.WideLaws
import Derived.Deep.DeepCutAuto
import Derived.Deep.CutBlock
import Derived.Deep.RegionHeld3
import Derived.Laws.Rows
import Derived.Lib.AppendStr
import Derived.ArgAppend
import Derived.Laws.IdiomCopy
import Derived.OrdersHeld
import Derived.Laws.BitsLemmas
import Derived.RowKit
import Derived.Test.YtekifiblehmafaaDoorWWords
import Derived.Test.YtekifiblehmafaaDoorWLast
import Derived.Test.YtekifiblehmafaaDoorWTab
import Derived.Test.YtekifiblehmafaaDoorWFour
import Derived.Test.YtekifiblehmafaaDoorWQPut
import Derived.Test.YtekifiblehmafaaDoorWApart
import Derived.Test.YtekifiblehmafaaDoorWArr
import Derived.Test.YtekifiblehmafaaDoorWZeros
import Derived.Test.YtekifiblehmafaaDoorWFoot
import Derived.Test.YtekifiblehmafaaDoorWKept
import Derived.Test.YtekifiblehmafaaDoorWShare
import Derived.Test.YtekifiblehmafaaDoorWN
import Derived.Test.YtekifiblehmafaaDoorWFootNe
import Derived.Test.YtekifiblehmafaaDoorWAt
import Derived.Test.YtekifiblehmafaaDoorWEqStruct
import Derived.Test.YtekifiblehmafaaDoorWRepsOne
import Derived.Test.YtekifiblehmafaaDoorWInv
import Derived.Test.YtekifiblehmafaaDoorWInvWords
import Derived.Test.YtekifiblehmafaaDoorWGuard
import Derived.Test.YtekifiblehmafaaDoorWNEv
import Derived.Test.YtekifiblehmafaaDoorWMore
namespace Go.Proofs.YtekifiblehmafaaDoor.X
open Go.RowKit Go.Proofs.YtekifiblehmafaaDoorW.PrintWords Go.Proofs.YtekifiblehmafaaDoorW.PrintLast Go.Proofs.YtekifiblehmafaaDoorW.PrintMore
attribute [local go_sem] max2_int min2_int max_two min_two max_three min_three max_four min_four   -- for this text's walks alone
set_option linter.unusedVariables false
set_option linter.unusedSimpArgs false



def errW : Option Int → Value
  | none => .nilIface
  | some c => .iface 0 (.int .i64 c)
theorem errW_none : errW none = .nilIface := rfl
theorem errW_some (c : Int) : errW (some c) = .iface 0 (.int .i64 c) := rfl

theorem info3 : (Tryd.prog.info? 3).map (fun i => (i.zero, i.size, i.bytes)) = some (some (.int .i64 0), 1, 8) := by kernel_rfl
theorem info5 : (Tryd.prog.info? 5).map (fun i => (i.zero, i.size, i.bytes)) = some (some (.int .u8 0), 1, 1) := by kernel_rfl
-- the values' own types

end Go.Proofs.YtekifiblehmafaaDoor.X
