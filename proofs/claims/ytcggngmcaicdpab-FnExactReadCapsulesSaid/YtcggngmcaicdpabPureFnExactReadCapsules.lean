/- FnExactReadCapsules: the program's ReadCapsules returns what the reference's returns, for every text, in memory of its own. -/
import Derived.Test.YtcggngmcaicdpabCapFnExactReadCapsules
import Derived.Test.YtcggngmcaicdpabMarkCapFnExactReadCapsules
set_option linter.unusedVariables false
set_option linter.unusedSimpArgs false
namespace Go.Proofs.Ytcggngmcaicdpab.Pure
open Go.RowKit Go.Proofs.Ytcggngmcaicdpab.B Go.Proofs.Ytcggngmcaicdpab.CFnExactReadCapsules Go.Proofs.Ytcggngmcaicdpab.PFnExactReadCapsules Go.Proofs.YtcggngmcaicdpabW.PrintWords Go.Proofs.YtcggngmcaicdpabW.PrintLast Go.Proofs.YtcggngmcaicdpabW.PrintMore

theorem ReadCapsules_spec (s : ByteArray) : EvP (fun k => spec_ReadCapsules.f k s) (· = Caps s) := by
  unfold Caps
  simp only [spec_ReadCapsules.f]
  by_cases h : s.size > 1500
  · rw [if_pos h]; exact EvP.pos (by omega) (EvP.some rfl)
  · rw [if_neg h]
    refine EvP.neg (by omega) ?_
    refine EvP.bind (read16_spec s (by omega)) ?_
    rintro r rfl
    exact EvP.some rfl
theorem FnExactReadCapsules : laws_FnExactReadCapsules.Pure := by
  intro s _
  refine EvP.rounds ?_
  simp only [laws_FnExactReadCapsules.f]
  refine EvP.ite (fun _ => EvP.some rfl) (fun hs => ?_)
  have hl := Caps_length s
  refine EvP.bind (ReadCapsules_spec s) ?_
  rintro p rfl
  refine EvP.bind (ReadCapsules_impl s) ?_
  rintro p rfl
  refine EvP.bind (eqCaps_self _ (by omega)) ?_
  rintro t rfl
  refine EvP.pos rfl (EvP.pos rfl ?_)
  refine EvP.step (fun k => by rw [laws_FnExactReadCapsules.j0]) ?_
  refine EvP.neg (by simp) ?_
  refine EvP.bind (markCaps_ok _ (by omega)) ?_
  rintro m rfl
  refine EvP.bind (heldCaps_ok _ (by omega)) ?_
  rintro q rfl
  refine EvP.neg (by omega) (EvP.pos rfl ?_)
  refine EvP.bind (ReadCapsules_impl s) ?_
  rintro p rfl
  refine EvP.bind (eqCaps_self _ (by omega)) ?_
  rintro t rfl
  refine EvP.pos rfl (EvP.pos rfl ?_)
  refine EvP.step (fun k => by rw [laws_FnExactReadCapsules.j1]) ?_
  refine EvP.neg (by simp) ?_
  refine EvP.bind (heldCaps_ok _ (by omega)) ?_
  rintro q rfl
  exact EvP.neg (by omega) (EvP.pos rfl (EvP.some rfl))
end Go.Proofs.Ytcggngmcaicdpab.Pure
