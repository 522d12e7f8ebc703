/- FnExactReadHex: the program's ReadHex returns what the reference's returns, for every text. -/
import Derived.Test.YtcggngmcaicdpaaReadHexFnExactReadHex
set_option linter.unusedVariables false
set_option linter.unusedSimpArgs false
namespace Go.Proofs.Ytcggngmcaicdpaa.Pure
open Go.RowKit Go.Proofs.Ytcggngmcaicdpaa.B Go.Proofs.Ytcggngmcaicdpaa.CFnExactReadHex Go.Proofs.Ytcggngmcaicdpaa.PFnExactReadHex Go.Proofs.YtcggngmcaicdpaaW.PrintWords Go.Proofs.YtcggngmcaicdpaaW.PrintLast Go.Proofs.YtcggngmcaicdpaaW.PrintMore

theorem FnExactReadHex : laws_FnExactReadHex.Pure := by
  intro s _
  refine EvP.rounds ?_
  simp only [laws_FnExactReadHex.f]
  refine EvP.ite (fun _ => EvP.some rfl) (fun _ => ?_)
  refine EvP.bind (spec_ReadHex_ok s) ?_
  rintro p rfl
  refine EvP.bind (impl_ReadHex_ok s) ?_
  rintro p rfl
  exact EvP.pos rfl (EvP.neg (by simp) (EvP.some rfl))
end Go.Proofs.Ytcggngmcaicdpaa.Pure
