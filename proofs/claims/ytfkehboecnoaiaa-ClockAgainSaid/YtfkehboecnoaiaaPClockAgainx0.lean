-- Written by a program of this session (xprint.py, over the kit's print.py), with contracts proved by hand.
import Derived.Test.YtfkehboecnoaiaaProg
import Derived.Below
import Derived.Deep.Draws
import Derived.Deep.AppendLies
import Derived.Maps.AppendAt
import Derived.OwnWalk
import Derived.Laws.BytesArg
import Derived.Laws.MakeOwn
import Derived.Laws.OwnMore
import Derived.Deep.OwnRows
import Derived.Tactics
import Derived.Lib.ConvBytes
import Derived.Laws.Slices
import Derived.WalkKit
import Derived.KernelRfl
import Derived.RowKit3
import Derived.Deep.LoopGhost
import Derived.Deep.QuietTactic
import Derived.BigQuiet
import Derived.WideLaws
import Derived.Deep.DeepCutAuto
import Derived.Deep.CutBlock
import Derived.Deep.RegionHeld3
import Derived.Laws.Rows
import Derived.Lib.AppendStr
import Derived.ArgAppend
import Derived.Laws.IdiomCopy
import Derived.OrdersHeld
import Derived.Laws.BitsLemmas
import Derived.RowKit
import Derived.Test.YtfkehboecnoaiaaClockExt
import Derived.Test.YtfkehboecnoaiaaWWords
import Derived.Test.YtfkehboecnoaiaaWLast
import Derived.Test.YtfkehboecnoaiaaWTab
import Derived.Test.YtfkehboecnoaiaaWFour
import Derived.Test.YtfkehboecnoaiaaWQPut
import Derived.Test.YtfkehboecnoaiaaWApart
import Derived.Test.YtfkehboecnoaiaaWArr
import Derived.Test.YtfkehboecnoaiaaWZeros
import Derived.Test.YtfkehboecnoaiaaWFoot
import Derived.Test.YtfkehboecnoaiaaWKept
import Derived.Test.YtfkehboecnoaiaaWShare
import Derived.Test.YtfkehboecnoaiaaWN
import Derived.Test.YtfkehboecnoaiaaWFootNe
import Derived.Test.YtfkehboecnoaiaaWAt
import Derived.Test.YtfkehboecnoaiaaWEqStruct
import Derived.Test.YtfkehboecnoaiaaWRepsOne
import Derived.Test.YtfkehboecnoaiaaWInv
import Derived.Test.YtfkehboecnoaiaaWInvWords
import Derived.Test.YtfkehboecnoaiaaWGuard
import Derived.Test.YtfkehboecnoaiaaWNEv
import Derived.Test.YtfkehboecnoaiaaWMore
namespace Go.Proofs.Ytfkehboecnoaiaa.PClockAgain
open Go.RowKit Go.Proofs.YtfkehboecnoaiaaW.PrintWords Go.Proofs.YtfkehboecnoaiaaW.PrintLast Go.Proofs.YtfkehboecnoaiaaW.PrintMore
attribute [local go_sem] max2_int min2_int max_two min_two max_three min_three max_four min_four   -- for this text's walks alone
set_option linter.unusedVariables false
set_option linter.unusedSimpArgs false



def errW : Option Int → Value
  | none => .nilIface
  | some c => .iface 0 (.int .i64 c)
theorem errW_none : errW none = .nilIface := rfl
theorem errW_some (c : Int) : errW (some c) = .iface 0 (.int .i64 c) := rfl

-- the values' own types

end Go.Proofs.Ytfkehboecnoaiaa.PClockAgain
