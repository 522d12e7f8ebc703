-- Written by a program of this session out of the translation; Lean checks it.
import Derived.Test.YtcggngmcaicdpaaProg
import Derived.Below
import Derived.Deep.Draws
import Derived.Deep.AppendLies
import Derived.Maps.AppendAt
import Derived.OwnWalk
import Derived.Laws.BytesArg
import Derived.Laws.MakeOwn
import Derived.Laws.OwnMore
import Derived.Deep.OwnRows
import Derived.Tactics
import Derived.Lib.ConvBytes
import Derived.Laws.Slices
import Derived.WalkKit
import Derived.KernelRfl
import Derived.RowKit3
import Derived.Deep.LoopGhost
import Derived.Deep.QuietTactic
import Derived.BigQuiet
import Derived.WideLaws
import Derived.Deep.DeepCutAuto
import Derived.Deep.CutBlock
import Derived.Deep.RegionHeld3
import Derived.Laws.Rows
import Derived.Lib.AppendStr
import Derived.ArgAppend
import Derived.Laws.IdiomCopy
import Derived.OrdersHeld
import Derived.Laws.BitsLemmas
import Derived.RowKit
import Derived.Test.YtcggngmcaicdpaaConvRow
import Derived.Test.YtcggngmcaicdpaaWWords
import Derived.Test.YtcggngmcaicdpaaWLast
import Derived.Test.YtcggngmcaicdpaaWTab
import Derived.Test.YtcggngmcaicdpaaWFour
import Derived.Test.YtcggngmcaicdpaaWQPut
import Derived.Test.YtcggngmcaicdpaaWApart
import Derived.Test.YtcggngmcaicdpaaWArr
import Derived.Test.YtcggngmcaicdpaaWZeros
import Derived.Test.YtcggngmcaicdpaaWFoot
import Derived.Test.YtcggngmcaicdpaaWKept
import Derived.Test.YtcggngmcaicdpaaWShare
import Derived.Test.YtcggngmcaicdpaaWN
import Derived.Test.YtcggngmcaicdpaaWFootNe
import Derived.Test.YtcggngmcaicdpaaWAt
import Derived.Test.YtcggngmcaicdpaaWEqStruct
import Derived.Test.YtcggngmcaicdpaaWRepsOne
import Derived.Test.YtcggngmcaicdpaaWInv
import Derived.Test.YtcggngmcaicdpaaWInvWords
import Derived.Test.YtcggngmcaicdpaaWGuard
import Derived.Test.YtcggngmcaicdpaaWNEv
import Derived.Test.YtcggngmcaicdpaaWMore
namespace Go.Proofs.Ytcggngmcaicdpaa.PFnExactReadCarried
open Go.RowKit Go.Proofs.YtcggngmcaicdpaaW.PrintWords Go.Proofs.YtcggngmcaicdpaaW.PrintLast Go.Proofs.YtcggngmcaicdpaaW.PrintMore
attribute [local go_sem] max2_int min2_int max_two min_two max_three min_three max_four min_four   -- for this text's walks alone
set_option linter.unusedVariables false
set_option linter.unusedSimpArgs false

theorem cell_two_stores (w : World) (a : Addr) (u v : Value) (h : (w.cell? a).isSome = true) : ((w.setCell a u).setCell a v).cell? a = some v := World.cell?_setCell_same' _ _ _ (by rw [World.cell?_setCell_same' w a u h]; rfl)
attribute [go_sem] cell_two_stores


def errW : Option Int → Value
 | none => .nilIface
 | some c => .iface 0 (.int .i64 c)
theorem errW_none : errW none = .nilIface := rfl
theorem errW_some (c : Int) : errW (some c) = .iface 0 (.int .i64 c) := rfl

-- the values' own types

end Go.Proofs.Ytcggngmcaicdpaa.PFnExactReadCarried
