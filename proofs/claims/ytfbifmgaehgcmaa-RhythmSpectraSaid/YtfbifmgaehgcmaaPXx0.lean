/- Functions of the program and their walks, printed by a program. -/
import Derived.Test.YtfbifmgaehgcmaaProg
import Derived.Below
import Derived.Deep.Draws
import Derived.Deep.AppendLies
import Derived.Maps.AppendAt
import Derived.OwnWalk
import Derived.Laws.BytesArg
import Derived.Laws.MakeOwn
import Derived.Laws.OwnMore
import Derived.Deep.OwnRows
import Derived.Tactics
import Derived.Lib.ConvBytes
import Derived.Laws.Slices
import Derived.WalkKit
import Derived.KernelRfl
import Derived.RowKit3
import Derived.Deep.LoopGhost
import Derived.Deep.QuietTactic
import Derived.BigQuiet
import Derived.WideLaws
import Derived.Deep.DeepCutAuto
import Derived.Deep.CutBlock
import Derived.Deep.RegionHeld3
import Derived.Laws.Rows
import Derived.Lib.AppendStr
import Derived.ArgAppend
import Derived.Laws.IdiomCopy
import Derived.OrdersHeld
import Derived.Laws.BitsLemmas
import Derived.RowKit
import Derived.Test.YtfbifmgaehgcmaaWWords
import Derived.Test.YtfbifmgaehgcmaaWLast
import Derived.Test.YtfbifmgaehgcmaaWTab
import Derived.Test.YtfbifmgaehgcmaaWFour
import Derived.Test.YtfbifmgaehgcmaaWQPut
import Derived.Test.YtfbifmgaehgcmaaWApart
import Derived.Test.YtfbifmgaehgcmaaWArr
import Derived.Test.YtfbifmgaehgcmaaWZeros
import Derived.Test.YtfbifmgaehgcmaaWFoot
import Derived.Test.YtfbifmgaehgcmaaWKept
import Derived.Test.YtfbifmgaehgcmaaWShare
import Derived.Test.YtfbifmgaehgcmaaWN
import Derived.Test.YtfbifmgaehgcmaaWFootNe
import Derived.Test.YtfbifmgaehgcmaaWAt
import Derived.Test.YtfbifmgaehgcmaaWEqStruct
import Derived.Test.YtfbifmgaehgcmaaWRepsOne
import Derived.Test.YtfbifmgaehgcmaaWInv
import Derived.Test.YtfbifmgaehgcmaaWInvWords
import Derived.Test.YtfbifmgaehgcmaaWGuard
import Derived.Test.YtfbifmgaehgcmaaWNEv
import Derived.Test.YtfbifmgaehgcmaaWMore
namespace Go.Proofs.Ytfbifmgaehgcmaa.PX
open Go.RowKit Go.Proofs.YtfbifmgaehgcmaaW.PrintWords Go.Proofs.YtfbifmgaehgcmaaW.PrintLast Go.Proofs.YtfbifmgaehgcmaaW.PrintMore
attribute [local go_sem] max2_int min2_int max_two min_two max_three min_three max_four min_four   -- for this text's walks alone
set_option linter.unusedVariables false
set_option linter.unusedSimpArgs false



def errW : Option Int → Value
  | none => .nilIface
  | some c => .iface 0 (.int .i64 c)
theorem errW_none : errW none = .nilIface := rfl
theorem errW_some (c : Int) : errW (some c) = .iface 0 (.int .i64 c) := rfl

-- the values' own types

end Go.Proofs.Ytfbifmgaehgcmaa.PX
