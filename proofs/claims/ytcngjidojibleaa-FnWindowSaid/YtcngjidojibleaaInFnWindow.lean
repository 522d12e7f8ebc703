/- Both packages' test of bounds. -/
import Derived.Test.YtcngjidojibleaaBase
import Derived.Test.YtcngjidojibleaaPFnWindowx0
import Derived.Test.YtcngjidojibleaaPFnWindowx1
import Derived.Test.YtcngjidojibleaaPFnWindowx2
import Derived.Test.YtcngjidojibleaaPFnWindowx3
import Derived.Test.YtcngjidojibleaaPFnWindowx4
import Derived.Test.YtcngjidojibleaaPFnWindowx5
import Derived.Test.YtcngjidojibleaaPFnWindowx6
import Derived.Test.YtcngjidojibleaaPFnWindowx7
set_option linter.unusedVariables false
set_option linter.unusedSimpArgs false
namespace Go.Proofs.Ytcngjidojibleaa.CFnWindow
open Go.RowKit Go.Proofs.Ytcngjidojibleaa.B Go.Proofs.Ytcngjidojibleaa.PFnWindow Go.Proofs.YtcngjidojibleaaW.PrintWords Go.Proofs.YtcngjidojibleaaW.PrintLast Go.Proofs.YtcngjidojibleaaW.PrintMore
theorem in_impl (a b c : Int) : impl_in.f a b c = some (decide (b ≤ a ∧ a ≤ c)) := by
  unfold impl_in.f
  by_cases h : a ≥ b
  · rw [if_pos h]; simp [h]
  · rw [if_neg h]; simp; omega
theorem in_spec (a b c : Int) : spec_l1In.f a b c = some (decide (b ≤ a ∧ a ≤ c)) := by
  unfold spec_l1In.f
  by_cases h : a ≥ b
  · rw [if_pos h]; simp [h]
  · rw [if_neg h]; simp; omega
end Go.Proofs.Ytcngjidojibleaa.CFnWindow
