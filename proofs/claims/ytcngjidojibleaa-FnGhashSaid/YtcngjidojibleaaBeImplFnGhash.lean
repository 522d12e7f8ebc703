/- The program's bigEndian writes the lowest bytes of a number. -/
import Derived.Test.YtcngjidojibleaaBe
import Derived.Test.YtcngjidojibleaaPFnGhashx0
import Derived.Test.YtcngjidojibleaaPFnGhashx1
import Derived.Test.YtcngjidojibleaaPFnGhashx2
import Derived.Test.YtcngjidojibleaaPFnGhashx3
import Derived.Test.YtcngjidojibleaaPFnGhashx4
import Derived.Test.YtcngjidojibleaaPFnGhashx5
import Derived.Test.YtcngjidojibleaaPFnGhashx6
set_option linter.unusedVariables false
set_option linter.unusedSimpArgs false
namespace Go.Proofs.Ytcngjidojibleaa.CFnGhash
open Go.RowKit Go.Proofs.Ytcngjidojibleaa.B Go.Proofs.Ytcngjidojibleaa.PFnGhash Go.Proofs.YtcngjidojibleaaW.PrintWords Go.Proofs.YtcngjidojibleaaW.PrintLast Go.Proofs.YtcngjidojibleaaW.PrintMore

theorem bigEndian_l0 (j : Nat) : ∀ (x : Int) (l : List Int), 0 ≤ x → j ≤ l.length → l.length ≤ 1000000 → EvP (fun k => impl_bigEndian.l0 k x l ((j : Int) - 1)) (· = strOfNums (BE j x ++ l.drop j)) := by
  induction j with
  | zero =>
    intro x l hx hl hz
    refine EvP.step (fun k => by rw [impl_bigEndian.l0]) ?_
    exact EvP.neg (by omega) (EvP.some (by simp [BE]))
  | succ j ih =>
    intro x l hx hl hz
    refine EvP.step (fun k => by rw [impl_bigEndian.l0]) ?_
    rw [show ((j + 1 : Nat) : Int) - 1 = (j : Int) by omega]
    refine EvP.pos (by omega) (EvP.pos (by omega) (EvP.pos (by omega) ?_))
    rw [w64 (n := (j : Int) - 1) (by omega) (by omega), Int.toNat_natCast]
    refine (ih _ _ (by omega) (by simp; omega) (by simp; omega)).mono ?_
    rintro r rfl
    rw [set_drop_self _ _ _ (by omega), BE]
    simp
theorem bigEndian_ok (x : Int) (m : Nat) (hx : 0 ≤ x) (hm : m ≤ 1000000) : EvP (fun k => impl_bigEndian.f k x (m : Int)) (· = strOfNums (BE m x)) := by
  simp only [impl_bigEndian.f]
  refine EvP.pos (by omega) (EvP.pos (by simp; omega) ?_)
  rw [w64 (n := (m : Int) - 1) (by omega) (by omega), Int.toNat_natCast]
  refine (bigEndian_l0 m x (List.replicate m 0) hx (by simp) (by simp; omega)).mono ?_
  rintro r rfl
  rw [List.drop_eq_nil_of_le (by simp)]
  simp
end Go.Proofs.Ytcngjidojibleaa.CFnGhash
