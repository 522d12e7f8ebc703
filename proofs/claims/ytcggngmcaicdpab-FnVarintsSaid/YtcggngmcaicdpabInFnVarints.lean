/- Both packages' test of bounds. -/
import Derived.Test.YtcggngmcaicdpabBase
import Derived.Test.YtcggngmcaicdpabPFnVarintsx0
import Derived.Test.YtcggngmcaicdpabPFnVarintsx1
import Derived.Test.YtcggngmcaicdpabPFnVarintsx2
import Derived.Test.YtcggngmcaicdpabPFnVarintsx3
set_option linter.unusedVariables false
set_option linter.unusedSimpArgs false
namespace Go.Proofs.Ytcggngmcaicdpab.CFnVarints
open Go.RowKit Go.Proofs.Ytcggngmcaicdpab.B Go.Proofs.Ytcggngmcaicdpab.PFnVarints Go.Proofs.YtcggngmcaicdpabW.PrintWords Go.Proofs.YtcggngmcaicdpabW.PrintLast Go.Proofs.YtcggngmcaicdpabW.PrintMore
theorem in_impl (a b c : Int) : impl_in.f a b c = some (decide (b ≤ a ∧ a ≤ c)) := by
  unfold impl_in.f
  by_cases h : a ≥ b
  · rw [if_pos h]; simp [h]
  · rw [if_neg h]; simp; omega
theorem in_spec (a b c : Int) : spec_l1In.f a b c = some (decide (b ≤ a ∧ a ≤ c)) := by
  unfold spec_l1In.f
  by_cases h : a ≥ b
  · rw [if_pos h]; simp [h]
  · rw [if_neg h]; simp; omega
end Go.Proofs.Ytcggngmcaicdpab.CFnVarints
