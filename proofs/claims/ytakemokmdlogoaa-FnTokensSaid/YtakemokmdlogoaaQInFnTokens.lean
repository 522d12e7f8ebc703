/- Whether a number lies between two others. -/
import Derived.Test.YtakemokmdlogoaaQBase
import Derived.Test.YtakemokmdlogoaaGFnTokensx0
import Derived.Test.YtakemokmdlogoaaGFnTokensx1
set_option linter.unusedVariables false
set_option linter.unusedSimpArgs false
namespace Go.Proofs.Ytakemokmdlogoaa.CFnTokens
open Go Go.Proofs Go.Proofs.YtakemokmdlogoaaPM Go.Proofs.Ytakemokmdlogoaa.Q Go.Proofs.Ytakemokmdlogoaa.GFnTokens
theorem in_impl (n a b : Int) : EvP (fun N => impl_in N n a b) (· = ((decide (a ≤ n ∧ n ≤ b), ()), ())) :=
  EvP.of (fun N => impl_in.eq N _ _ _) (EvP.ite (fun h => EvP.some (by simp [h])) (fun h => EvP.some (by simp [h])))
theorem in_spec (n a b : Int) : EvP (fun N => spec_l1In N n a b) (· = ((decide (a ≤ n ∧ n ≤ b), ()), ())) :=
  EvP.of (fun N => spec_l1In.eq N _ _ _) (EvP.ite (fun h => EvP.some (by simp [h])) (fun h => EvP.some (by simp [h])))
end Go.Proofs.Ytakemokmdlogoaa.CFnTokens
