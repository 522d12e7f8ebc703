/- FnExactFeedCapsules: both packages read the same capsules of a row of texts; the answer is one's own, and the same each time. -/
import Derived.Test.YtcngjidojibleaaQFeedFnExactFeedCapsules
import Derived.Test.YtcngjidojibleaaQMarkCapFnExactFeedCapsules
import Derived.Test.YtcngjidojibleaaQMarkSFnExactFeedCapsules
set_option linter.unusedVariables false
set_option linter.unusedSimpArgs false
namespace Go.Proofs.Ytcngjidojibleaa.Pure
open Go Go.Proofs Go.Proofs.YtcngjidojibleaaPM Go.Proofs.Ytcngjidojibleaa.Q Go.Proofs.Ytcngjidojibleaa.CFnExactFeedCapsules Go.Proofs.Ytcngjidojibleaa.GFnExactFeedCapsules

theorem FnExactFeedCapsules (a0 : List ByteArray) (s0 : a0.length ≤ maxLen) (h0 : ∀ s ∈ a0, s.size ≤ maxLen) : ∃ N, laws_FnExactFeedCapsules N a0 = some ((true, ()), ()) := by
  refine EvP.fin (EvP.of (fun k => laws_FnExactFeedCapsules.eq k _) (EvP.andK (sz_ok a0 s0 h0) ?_))
  intro u hu
  refine EvP.ite (fun _ => EvP.some rfl) (fun h => ?_)
  have hl := hu h
  have hlen : a0.length ≤ 1048576 := by omega
  have hf := fcOf_len a0
  refine EvP.to (toS_ok a0 hlen) (EvP.to (Feed_spec a0 hl) (EvP.to (toS_ok a0 hlen) (EvP.to (Feed_impl a0 hl) ?_)))
  dsimp only
  generalize hc : fcOf a0 = c at hf
  obtain ⟨⟨⟨⟩, n, b, ⟨⟩⟩, m, ⟨⟩⟩ := c
  dsimp only at hf
  refine EvP.to (a := (((), ((), ((), (false, ())))), (a0, (m, (a0, (m, ())))))) (EvP.to (eqCaps_self m (by omega)) (EvP.no rfl (EvP.nneg rfl (EvP.some (by simp))))) (EvP.no rfl ?_)
  refine EvP.to (toS_ok a0 hlen) (EvP.to (eqS_ok a0 (by omega)) (EvP.no rfl (EvP.to (markS_ok a0 (by omega)) ?_)))
  refine EvP.to (a := (((), ((), (false, ()))), (a0, (m, (marks a0.length, (m, (a0, ()))))))) (EvP.neg (by (try dsimp only); omega) (EvP.to (eqCaps_self m (by omega)) (EvP.no rfl (EvP.nneg rfl (EvP.some (by simp)))))) (EvP.no rfl ?_)
  refine EvP.to (markC_ok m (by (try dsimp only); omega)) (EvP.to (heldC_ok m.length (by omega)) (EvP.neg (by (try dsimp only); omega) (EvP.nneg rfl ?_)))
  refine EvP.to (toS_ok a0 hlen) (EvP.to (Feed_impl a0 hl) ?_)
  rw [hc]
  refine EvP.to (a := (((), (false, ())), (a0, (m, (marks a0.length, (marksC m.length, (a0, (a0, (m, ()))))))))) (EvP.to (eqCaps_self m (by omega)) (EvP.no rfl (EvP.nneg rfl (EvP.some (by simp))))) (EvP.no rfl ?_)
  exact EvP.to (heldC_ok m.length (by omega)) (EvP.neg (by (try dsimp only); omega) (EvP.nneg rfl (EvP.some rfl)))
end Go.Proofs.Ytcngjidojibleaa.Pure
