/- The reference's l1Fixed. -/
import Derived.Test.YthkjjombaoffcaaGreatDoorQBe
import Derived.Test.YthkjjombaoffcaaGreatDoorGFnRendezvousx0
set_option linter.unusedVariables false
set_option linter.unusedSimpArgs false
namespace Go.Proofs.YthkjjombaoffcaaGreatDoor.CFnRendezvous
open Go Go.Proofs Go.Proofs.YthkjjombaoffcaaGreatDoorPM Go.Proofs.YthkjjombaoffcaaGreatDoor.Q Go.Proofs.YthkjjombaoffcaaGreatDoor.GFnRendezvous

theorem fixed_l0 (x : Int) (j : Nat) : ∀ (l : List Int), j ≤ 8 → l.length + j ≤ 1000000 → EvP (fun k => spec_l1Fixed.l0 k x ((j : Int) - 1) l) (fun r => r.2.1 = l ++ BE j x) := by
  induction j with
  | zero =>
    intro l hj hz
    exact EvP.step (fun k => spec_l1Fixed.l0.eq k _ _ _) (EvP.neg (by omega) (EvP.some (by simp [BE])))
  | succ j ih =>
    intro l hj hz
    refine EvP.step (fun k => spec_l1Fixed.l0.eq k _ _ _) ?_
    rw [show ((j + 1 : Nat) : Int) - 1 = (j : Int) by omega, i64w (n := 8 * (j : Int)) (by omega) (by omega), u64i (n := 8 * (j : Int)) (by omega) (by omega), i64w (n := (j : Int) - 1) (by omega) (by omega)]
    refine EvP.pos (by omega) (EvP.chk1 (by omega) (EvP.chk1 (show _ < (68719476736 : Nat) by omega) ?_))
    refine (ih _ (by omega) (by simp; omega)).mono ?_
    intro r hr
    have e : shrI .i64 x (8 * (j : Int)) = x / 256 ^ j := by
      rw [show 8 * (j : Int) = ((8 * j : Nat) : Int) by omega, shrI_pow (by simp [IntKind.bits]; omega), pow_256]
    rw [hr, e, u8w, BE_front]
    simp
theorem fixed_ok (x : Int) (m : Nat) (hm : m ≤ 8) : EvP (fun k => spec_l1Fixed k x (m : Int)) (· = ((be m x, ()), ())) := by
  refine EvP.of (fun k => spec_l1Fixed.eq k _ _) ?_
  rw [i64w (n := (m : Int) - 1) (by omega) (by omega)]
  refine EvP.andK (fixed_l0 x m [] hm (by simp; omega)) ?_
  rintro r hr
  rw [hr]
  exact EvP.some rfl
end Go.Proofs.YthkjjombaoffcaaGreatDoor.CFnRendezvous
