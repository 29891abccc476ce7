-- Written by a program of this session (xprint.py, over the kit's print.py), with contracts proved by hand.
import Derived.Test.YtcpiapenagbapaaDoorProg
import Derived.Below
import Derived.Deep.Draws
import Derived.Deep.AppendLies
import Derived.Maps.AppendAt
import Derived.OwnWalk
import Derived.Laws.BytesArg
import Derived.Laws.MakeOwn
import Derived.Laws.OwnMore
import Derived.Deep.OwnRows
import Derived.Tactics
import Derived.Lib.ConvBytes
import Derived.Laws.Slices
import Derived.WalkKit
import Derived.KernelRfl
import Derived.RowKit3
import Derived.Deep.LoopGhost
import Derived.Deep.QuietTactic
import Derived.BigQuiet
import Derived.WideLaws
import Derived.Deep.DeepCutAuto
import Derived.Deep.CutBlock
import Derived.Deep.RegionHeld3
import Derived.Laws.Rows
import Derived.Lib.AppendStr
import Derived.ArgAppend
import Derived.Laws.IdiomCopy
import Derived.OrdersHeld
import Derived.Laws.BitsLemmas
import Derived.RowKit
import Derived.Test.YtcpiapenagbapaaDoorPlateEdit
import Derived.Test.YtcpiapenagbapaaDoorKitW
import Derived.Test.YtcpiapenagbapaaDoorWWords
import Derived.Test.YtcpiapenagbapaaDoorWLast
import Derived.Test.YtcpiapenagbapaaDoorWTab
import Derived.Test.YtcpiapenagbapaaDoorWFour
import Derived.Test.YtcpiapenagbapaaDoorWQPut
import Derived.Test.YtcpiapenagbapaaDoorWApart
import Derived.Test.YtcpiapenagbapaaDoorWArr
import Derived.Test.YtcpiapenagbapaaDoorWZeros
import Derived.Test.YtcpiapenagbapaaDoorWFoot
import Derived.Test.YtcpiapenagbapaaDoorWKept
import Derived.Test.YtcpiapenagbapaaDoorWShare
import Derived.Test.YtcpiapenagbapaaDoorWN
import Derived.Test.YtcpiapenagbapaaDoorWFootNe
import Derived.Test.YtcpiapenagbapaaDoorWAt
import Derived.Test.YtcpiapenagbapaaDoorWEqStruct
import Derived.Test.YtcpiapenagbapaaDoorWRepsOne
import Derived.Test.YtcpiapenagbapaaDoorWInv
import Derived.Test.YtcpiapenagbapaaDoorWInvWords
import Derived.Test.YtcpiapenagbapaaDoorWGuard
import Derived.Test.YtcpiapenagbapaaDoorWNEv
import Derived.Test.YtcpiapenagbapaaDoorWMore
namespace Go.Proofs.YtcpiapenagbapaaDoor.PPlateEdits
open Go.RowKit Go.Proofs.YtcpiapenagbapaaDoorW.PrintWords Go.Proofs.YtcpiapenagbapaaDoorW.PrintLast Go.Proofs.YtcpiapenagbapaaDoorW.PrintMore
attribute [local go_sem] max2_int min2_int max_two min_two max_three min_three max_four min_four   -- for this text's walks alone
set_option linter.unusedVariables false
set_option linter.unusedSimpArgs false



def errW : Option Int → Value
  | none => .nilIface
  | some c => .iface 0 (.int .i64 c)
theorem errW_none : errW none = .nilIface := rfl
theorem errW_some (c : Int) : errW (some c) = .iface 0 (.int .i64 c) := rfl

theorem info9 : (Tryd.prog.info? 9).map (fun i => (i.zero, i.size, i.bytes)) = some (some (.string ⟨#[]⟩), 1, 16) := by kernel_rfl
-- the values' own types

end Go.Proofs.YtcpiapenagbapaaDoor.PPlateEdits
