/- Whether a number lies between two others, and whether a varint can tell it: the program's answers. -/
import Derived.Test.YtbfkfhadcmpndaaQBase
import Derived.Test.YtbfkfhadcmpndaaGFnRangesx0
set_option linter.unusedVariables false
set_option linter.unusedSimpArgs false
namespace Go.Proofs.Ytbfkfhadcmpndaa.CFnRanges
open Go Go.Proofs Go.Proofs.YtbfkfhadcmpndaaPM Go.Proofs.Ytbfkfhadcmpndaa.Q Go.Proofs.Ytbfkfhadcmpndaa.GFnRanges

theorem in_i (n lo hi : Int) : EvP (fun N => impl_in N n lo hi) (· = ((decide (lo ≤ n ∧ n ≤ hi), ()), ())) := by
  refine EvP.of (fun N => impl_in.eq N _ _ _) (EvP.ite (fun h => EvP.some ?_) (fun h => EvP.some ?_))
  · rw [dec_eq (q := lo ≤ n ∧ n ≤ hi) (fun h2 => ⟨h, h2⟩) (fun h2 => h2.2)]
  · rw [decide_eq_false (show ¬(lo ≤ n ∧ n ≤ hi) from fun h2 => h h2.1)]
def VarN (n : Int) : Prop := 0 ≤ n ∧ n ≤ 4611686018427387903
instance (n : Int) : Decidable (VarN n) := by unfold VarN; infer_instance
theorem isVarint_i (n : Int) : EvP (fun N => impl_isVarint N n) (· = ((decide (VarN n), ()), ())) := EvP.of (fun N => impl_isVarint.eq N _) (EvP.to (in_i _ _ _) (EvP.some rfl))
end Go.Proofs.Ytbfkfhadcmpndaa.CFnRanges
