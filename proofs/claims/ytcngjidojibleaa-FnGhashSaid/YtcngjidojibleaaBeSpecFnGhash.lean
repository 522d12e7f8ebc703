/- The reference's l1Fixed writes the lowest bytes of a number. -/
import Derived.Test.YtcngjidojibleaaBe
import Derived.Test.YtcngjidojibleaaPFnGhashx0
import Derived.Test.YtcngjidojibleaaPFnGhashx1
import Derived.Test.YtcngjidojibleaaPFnGhashx2
import Derived.Test.YtcngjidojibleaaPFnGhashx3
import Derived.Test.YtcngjidojibleaaPFnGhashx4
import Derived.Test.YtcngjidojibleaaPFnGhashx5
import Derived.Test.YtcngjidojibleaaPFnGhashx6
set_option linter.unusedVariables false
set_option linter.unusedSimpArgs false
namespace Go.Proofs.Ytcngjidojibleaa.CFnGhash
open Go.RowKit Go.Proofs.Ytcngjidojibleaa.B Go.Proofs.Ytcngjidojibleaa.PFnGhash Go.Proofs.YtcngjidojibleaaW.PrintWords Go.Proofs.YtcngjidojibleaaW.PrintLast Go.Proofs.YtcngjidojibleaaW.PrintMore

theorem fixed_l0 (x : Int) (j : Nat) : ∀ (l : List Int), j ≤ 8 → l.length + j ≤ 1000000 → EvP (fun k => spec_l1Fixed.l0 k x l ((j : Int) - 1)) (· = strOfNums (l ++ BE j x)) := by
  induction j with
  | zero =>
    intro l hj hz
    refine EvP.step (fun k => by rw [spec_l1Fixed.l0]) ?_
    exact EvP.neg (by omega) (EvP.some (by simp [BE]))
  | succ j ih =>
    intro l hj hz
    refine EvP.step (fun k => by rw [spec_l1Fixed.l0]) ?_
    rw [show ((j + 1 : Nat) : Int) - 1 = (j : Int) by omega, w64 (n := 8 * (j : Int)) (by omega) (by omega), u64w_id (n := 8 * (j : Int)) (by omega) (by omega), w64 (n := (j : Int) - 1) (by omega) (by omega)]
    refine EvP.pos (by omega) (EvP.pos (by omega) (EvP.pos (by omega) ?_))
    by_cases hz2 : l.length + 1 ≤ 1000000
    · refine (ih _ (by omega) (by simp; omega)).mono ?_
      rintro r rfl
      have e : shr .i64 x (8 * (j : Int)) = x / 256 ^ j := by
        unfold shr
        rw [Nat.min_eq_left (by simp [IntKind.bits]; omega), show (8 * (j : Int)).toNat = 8 * j by omega, pow_256]
      rw [e, BE_front]
      simp
    · exact absurd hz2 (by omega)
theorem fixed_ok (x : Int) (m : Nat) (hm : m ≤ 8) : EvP (fun k => spec_l1Fixed.f k x (m : Int)) (· = strOfNums (BE m x)) := by
  simp only [spec_l1Fixed.f]
  rw [w64 (n := (m : Int) - 1) (by omega) (by omega)]
  refine (fixed_l0 x m [] hm (by simp; omega)).mono ?_
  rintro r rfl
  simp
end Go.Proofs.Ytcngjidojibleaa.CFnGhash
