/- FnExactCutDatagram: both packages cut a datagram into the same packets; the answer is one's own, and the same each time. -/
import Derived.Test.YtcngjidojibleabQCutFnExactCutDatagram
import Derived.Test.YtcngjidojibleabQMarkStrFnExactCutDatagram
set_option linter.unusedVariables false
set_option linter.unusedSimpArgs false
namespace Go.Proofs.Ytcngjidojibleab.Pure
open Go Go.Proofs Go.Proofs.YtcngjidojibleabPM Go.Proofs.Ytcngjidojibleab.Q Go.Proofs.Ytcngjidojibleab.CFnExactCutDatagram Go.Proofs.Ytcngjidojibleab.GFnExactCutDatagram

theorem FnExactCutDatagram (a0 : ByteArray) (s0 : a0.size ≤ 140737488351232) (a1 : Int) (w1 : (Lit.int .i64 a1).wf = true) : ∃ N, laws_FnExactCutDatagram N a0 a1 = some ((true, ()), ()) := by
  refine EvP.fin (EvP.of (fun k => laws_FnExactCutDatagram.eq k _ _) ?_)
  refine EvP.ite (fun _ => EvP.some rfl) (fun _ => ?_)
  have hl := cutOf_len a0 a1
  refine EvP.to (Cut_spec a0 a1) (EvP.to (Cut_impl a0 a1) ?_)
  generalize hc : cutOf a0 a1 = c at hl
  refine EvP.to (a := (((), ((), (false, ()))), (c.2.1, (c.2.1, ())))) (EvP.to (eqS_ok _ (by omega)) (EvP.no rfl (EvP.some (by simp)))) (EvP.no rfl ?_)
  refine EvP.to (markS_ok _ (by dsimp only; omega)) (EvP.to (heldS_ok _ (by dsimp only; omega)) (EvP.neg (by dsimp only; omega) (EvP.nneg rfl (EvP.to (Cut_impl a0 a1) ?_))))
  rw [hc]
  refine EvP.to (a := (((), (false, ())), (c.2.1, (marks c.2.1.length, (c.2.1, ()))))) (EvP.to (eqS_ok _ (by omega)) (EvP.no rfl (EvP.some (by simp)))) (EvP.no rfl ?_)
  exact EvP.to (heldS_ok _ (by omega)) (EvP.neg (by dsimp only; omega) (EvP.nneg rfl (EvP.some rfl)))
end Go.Proofs.Ytcngjidojibleab.Pure
