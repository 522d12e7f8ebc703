-- Written by a program of this session out of the translation; Lean checks it.
import Derived.Test.YtcngjidojibleaaProg
import Derived.Below
import Derived.Deep.Draws
import Derived.Deep.AppendLies
import Derived.Maps.AppendAt
import Derived.OwnWalk
import Derived.Laws.BytesArg
import Derived.Laws.MakeOwn
import Derived.Laws.OwnMore
import Derived.Deep.OwnRows
import Derived.Tactics
import Derived.Lib.ConvBytes
import Derived.Laws.Slices
import Derived.WalkKit
import Derived.KernelRfl
import Derived.RowKit3
import Derived.Deep.LoopGhost
import Derived.Deep.QuietTactic
import Derived.BigQuiet
import Derived.WideLaws
import Derived.Deep.DeepCutAuto
import Derived.Deep.CutBlock
import Derived.Deep.RegionHeld3
import Derived.Laws.Rows
import Derived.Lib.AppendStr
import Derived.ArgAppend
import Derived.Laws.IdiomCopy
import Derived.OrdersHeld
import Derived.Laws.BitsLemmas
import Derived.RowKit
import Derived.Test.YtcngjidojibleaaConvRow
import Derived.BigRegion
import Derived.Test.YtcngjidojibleaaWWords
import Derived.Test.YtcngjidojibleaaWLast
import Derived.Test.YtcngjidojibleaaWTab
import Derived.Test.YtcngjidojibleaaWFour
import Derived.Test.YtcngjidojibleaaWQPut
import Derived.Test.YtcngjidojibleaaWApart
import Derived.Test.YtcngjidojibleaaWArr
import Derived.Test.YtcngjidojibleaaWZeros
import Derived.Test.YtcngjidojibleaaWFoot
import Derived.Test.YtcngjidojibleaaWKept
import Derived.Test.YtcngjidojibleaaWShare
import Derived.Test.YtcngjidojibleaaWN
import Derived.Test.YtcngjidojibleaaWFootNe
import Derived.Test.YtcngjidojibleaaWAt
import Derived.Test.YtcngjidojibleaaWEqStruct
import Derived.Test.YtcngjidojibleaaWRepsOne
import Derived.Test.YtcngjidojibleaaWInv
import Derived.Test.YtcngjidojibleaaWInvWords
import Derived.Test.YtcngjidojibleaaWGuard
import Derived.Test.YtcngjidojibleaaWNEv
import Derived.Test.YtcngjidojibleaaWMore
namespace Go.Proofs.Ytcngjidojibleaa.PFnGhash
open Go.RowKit Go.Proofs.YtcngjidojibleaaW.PrintWords Go.Proofs.YtcngjidojibleaaW.PrintLast Go.Proofs.YtcngjidojibleaaW.PrintMore
attribute [local go_sem] max2_int min2_int max_two min_two max_three min_three max_four min_four   -- for this text's walks alone
set_option linter.unusedVariables false
set_option linter.unusedSimpArgs false

theorem cell_two_stores (w : World) (a : Addr) (u v : Value) (h : (w.cell? a).isSome = true) : ((w.setCell a u).setCell a v).cell? a = some v := World.cell?_setCell_same' _ _ _ (by rw [World.cell?_setCell_same' w a u h]; rfl)
attribute [go_sem] cell_two_stores


def errW : Option Int → Value
 | none => .nilIface
 | some c => .iface 0 (.int .i64 c)
theorem errW_none : errW none = .nilIface := rfl
theorem errW_some (c : Int) : errW (some c) = .iface 0 (.int .i64 c) := rfl

theorem info3 : (Try.prog.info? 3).map (fun i => (i.zero, i.size, i.bytes)) = some (some (.int .i64 0), 1, 8) := by kernel_rfl
theorem info5 : (Try.prog.info? 5).map (fun i => (i.zero, i.size, i.bytes)) = some (some (.int .u8 0), 1, 1) := by kernel_rfl
-- the values' own types

end Go.Proofs.Ytcngjidojibleaa.PFnGhash
