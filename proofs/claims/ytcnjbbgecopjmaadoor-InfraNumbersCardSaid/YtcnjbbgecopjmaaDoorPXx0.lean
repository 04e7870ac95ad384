/- Functions of the program and their walks, printed by a program. -/
import Derived.Test.YtcnjbbgecopjmaaDoorProg
import Derived.Below
import Derived.Deep.Draws
import Derived.Deep.AppendLies
import Derived.Maps.AppendAt
import Derived.OwnWalk
import Derived.Laws.BytesArg
import Derived.Laws.MakeOwn
import Derived.Laws.OwnMore
import Derived.Deep.OwnRows
import Derived.Tactics
import Derived.Lib.ConvBytes
import Derived.Laws.Slices
import Derived.WalkKit
import Derived.KernelRfl
import Derived.RowKit3
import Derived.Deep.LoopGhost
import Derived.Deep.QuietTactic
import Derived.BigQuiet
import Derived.WideLaws
import Derived.Deep.DeepCutAuto
import Derived.Deep.CutBlock
import Derived.Deep.RegionHeld3
import Derived.Laws.Rows
import Derived.Lib.AppendStr
import Derived.ArgAppend
import Derived.Laws.IdiomCopy
import Derived.OrdersHeld
import Derived.Laws.BitsLemmas
import Derived.RowKit
import Derived.Test.YtcnjbbgecopjmaaDoorWWords
import Derived.Test.YtcnjbbgecopjmaaDoorWLast
import Derived.Test.YtcnjbbgecopjmaaDoorWTab
import Derived.Test.YtcnjbbgecopjmaaDoorWFour
import Derived.Test.YtcnjbbgecopjmaaDoorWQPut
import Derived.Test.YtcnjbbgecopjmaaDoorWApart
import Derived.Test.YtcnjbbgecopjmaaDoorWArr
import Derived.Test.YtcnjbbgecopjmaaDoorWZeros
import Derived.Test.YtcnjbbgecopjmaaDoorWFoot
import Derived.Test.YtcnjbbgecopjmaaDoorWKept
import Derived.Test.YtcnjbbgecopjmaaDoorWShare
import Derived.Test.YtcnjbbgecopjmaaDoorWN
import Derived.Test.YtcnjbbgecopjmaaDoorWFootNe
import Derived.Test.YtcnjbbgecopjmaaDoorWAt
import Derived.Test.YtcnjbbgecopjmaaDoorWEqStruct
import Derived.Test.YtcnjbbgecopjmaaDoorWRepsOne
import Derived.Test.YtcnjbbgecopjmaaDoorWInv
import Derived.Test.YtcnjbbgecopjmaaDoorWInvWords
import Derived.Test.YtcnjbbgecopjmaaDoorWGuard
import Derived.Test.YtcnjbbgecopjmaaDoorWNEv
import Derived.Test.YtcnjbbgecopjmaaDoorWMore
namespace Go.Proofs.YtcnjbbgecopjmaaDoor.PX
open Go.RowKit Go.Proofs.YtcnjbbgecopjmaaDoorW.PrintWords Go.Proofs.YtcnjbbgecopjmaaDoorW.PrintLast Go.Proofs.YtcnjbbgecopjmaaDoorW.PrintMore
attribute [local go_sem] max2_int min2_int max_two min_two max_three min_three max_four min_four   -- for this text's walks alone
set_option linter.unusedVariables false
set_option linter.unusedSimpArgs false



def errW : Option Int → Value
  | none => .nilIface
  | some c => .iface 0 (.int .i64 c)
theorem errW_none : errW none = .nilIface := rfl
theorem errW_some (c : Int) : errW (some c) = .iface 0 (.int .i64 c) := rfl

theorem info5 : (Tryd.prog.info? 5).map (fun i => (i.zero, i.size, i.bytes)) = some (some (.int .u8 0), 1, 1) := by kernel_rfl
-- the values' own types

end Go.Proofs.YtcnjbbgecopjmaaDoor.PX
