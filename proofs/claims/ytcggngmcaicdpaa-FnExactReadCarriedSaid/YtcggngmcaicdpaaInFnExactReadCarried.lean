/- Both packages' test of bounds. -/
import Derived.Test.YtcggngmcaicdpaaBase
import Derived.Test.YtcggngmcaicdpaaPFnExactReadCarriedx0
import Derived.Test.YtcggngmcaicdpaaPFnExactReadCarriedx1
import Derived.Test.YtcggngmcaicdpaaPFnExactReadCarriedx2
set_option linter.unusedVariables false
set_option linter.unusedSimpArgs false
namespace Go.Proofs.Ytcggngmcaicdpaa.CFnExactReadCarried
open Go.RowKit Go.Proofs.Ytcggngmcaicdpaa.B Go.Proofs.Ytcggngmcaicdpaa.PFnExactReadCarried Go.Proofs.YtcggngmcaicdpaaW.PrintWords Go.Proofs.YtcggngmcaicdpaaW.PrintLast Go.Proofs.YtcggngmcaicdpaaW.PrintMore
theorem in_impl (a b c : Int) : impl_in.f a b c = some (decide (b ≤ a ∧ a ≤ c)) := by
  unfold impl_in.f
  by_cases h : a ≥ b
  · rw [if_pos h]; simp [h]
  · rw [if_neg h]; simp; omega
theorem in_spec (a b c : Int) : spec_l1In.f a b c = some (decide (b ≤ a ∧ a ≤ c)) := by
  unfold spec_l1In.f
  by_cases h : a ≥ b
  · rw [if_pos h]; simp [h]
  · rw [if_neg h]; simp; omega
end Go.Proofs.Ytcggngmcaicdpaa.CFnExactReadCarried
