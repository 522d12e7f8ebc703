/- Whether a number lies between two others. -/
import Derived.Test.YthkjjombaoffcaaDoorQBase
import Derived.Test.YthkjjombaoffcaaDoorGFnFieldsx0
set_option linter.unusedVariables false
set_option linter.unusedSimpArgs false
namespace Go.Proofs.YthkjjombaoffcaaDoor.CFnFields
open Go Go.Proofs Go.Proofs.YthkjjombaoffcaaDoorPM Go.Proofs.YthkjjombaoffcaaDoor.Q Go.Proofs.YthkjjombaoffcaaDoor.GFnFields
theorem in_impl (n a b : Int) : EvP (fun N => impl_in N n a b) (· = ((decide (a ≤ n ∧ n ≤ b), ()), ())) :=
  EvP.of (fun N => impl_in.eq N _ _ _) (EvP.ite (fun h => EvP.some (by simp [h])) (fun h => EvP.some (by simp [h])))
theorem in_spec (n a b : Int) : EvP (fun N => spec_l1In N n a b) (· = ((decide (a ≤ n ∧ n ≤ b), ()), ())) :=
  EvP.of (fun N => spec_l1In.eq N _ _ _) (EvP.ite (fun h => EvP.some (by simp [h])) (fun h => EvP.some (by simp [h])))
end Go.Proofs.YthkjjombaoffcaaDoor.CFnFields
