-- Written by a program of this session out of the translation; Lean checks it.
import Derived.Test.YtcggngmcaicdpabProg
import Derived.Below
import Derived.Deep.Draws
import Derived.Deep.AppendLies
import Derived.Maps.AppendAt
import Derived.OwnWalk
import Derived.Laws.BytesArg
import Derived.Laws.MakeOwn
import Derived.Laws.OwnMore
import Derived.Deep.OwnRows
import Derived.Tactics
import Derived.Lib.ConvBytes
import Derived.Laws.Slices
import Derived.WalkKit
import Derived.KernelRfl
import Derived.RowKit3
import Derived.Deep.LoopGhost
import Derived.Deep.QuietTactic
import Derived.BigQuiet
import Derived.WideLaws
import Derived.Deep.DeepCutAuto
import Derived.Deep.CutBlock
import Derived.Deep.RegionHeld3
import Derived.Laws.Rows
import Derived.Lib.AppendStr
import Derived.ArgAppend
import Derived.Laws.IdiomCopy
import Derived.OrdersHeld
import Derived.Laws.BitsLemmas
import Derived.RowKit
import Derived.Test.YtcggngmcaicdpabConvRow
import Derived.BigRegion
import Derived.Test.YtcggngmcaicdpabWWords
import Derived.Test.YtcggngmcaicdpabWLast
import Derived.Test.YtcggngmcaicdpabWTab
import Derived.Test.YtcggngmcaicdpabWFour
import Derived.Test.YtcggngmcaicdpabWQPut
import Derived.Test.YtcggngmcaicdpabWApart
import Derived.Test.YtcggngmcaicdpabWArr
import Derived.Test.YtcggngmcaicdpabWZeros
import Derived.Test.YtcggngmcaicdpabWFoot
import Derived.Test.YtcggngmcaicdpabWKept
import Derived.Test.YtcggngmcaicdpabWShare
import Derived.Test.YtcggngmcaicdpabWN
import Derived.Test.YtcggngmcaicdpabWFootNe
import Derived.Test.YtcggngmcaicdpabWAt
import Derived.Test.YtcggngmcaicdpabWEqStruct
import Derived.Test.YtcggngmcaicdpabWRepsOne
import Derived.Test.YtcggngmcaicdpabWInv
import Derived.Test.YtcggngmcaicdpabWInvWords
import Derived.Test.YtcggngmcaicdpabWGuard
import Derived.Test.YtcggngmcaicdpabWNEv
import Derived.Test.YtcggngmcaicdpabWMore
namespace Go.Proofs.Ytcggngmcaicdpab.PFnBlocks
open Go.RowKit Go.Proofs.YtcggngmcaicdpabW.PrintWords Go.Proofs.YtcggngmcaicdpabW.PrintLast Go.Proofs.YtcggngmcaicdpabW.PrintMore
attribute [local go_sem] max2_int min2_int max_two min_two max_three min_three max_four min_four   -- for this text's walks alone
set_option linter.unusedVariables false
set_option linter.unusedSimpArgs false

theorem cell_two_stores (w : World) (a : Addr) (u v : Value) (h : (w.cell? a).isSome = true) : ((w.setCell a u).setCell a v).cell? a = some v := World.cell?_setCell_same' _ _ _ (by rw [World.cell?_setCell_same' w a u h]; rfl)
attribute [go_sem] cell_two_stores


def errW : Option Int → Value
 | none => .nilIface
 | some c => .iface 0 (.int .i64 c)
theorem errW_none : errW none = .nilIface := rfl
theorem errW_some (c : Int) : errW (some c) = .iface 0 (.int .i64 c) := rfl

theorem info3 : (Try.prog.info? 3).map (fun i => (i.zero, i.size, i.bytes)) = some (some (.int .i64 0), 1, 8) := by kernel_rfl
theorem info5 : (Try.prog.info? 5).map (fun i => (i.zero, i.size, i.bytes)) = some (some (.int .u8 0), 1, 1) := by kernel_rfl
-- the values' own types

end Go.Proofs.Ytcggngmcaicdpab.PFnBlocks
