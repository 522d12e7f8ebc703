/- The program's bigEndian. -/
import Derived.Test.YthkjjombaoffcaaGreatDoorQBe
import Derived.Test.YthkjjombaoffcaaGreatDoorGFnRendezvousx0
set_option linter.unusedVariables false
set_option linter.unusedSimpArgs false
namespace Go.Proofs.YthkjjombaoffcaaGreatDoor.CFnRendezvous
open Go Go.Proofs Go.Proofs.YthkjjombaoffcaaGreatDoorPM Go.Proofs.YthkjjombaoffcaaGreatDoor.Q Go.Proofs.YthkjjombaoffcaaGreatDoor.GFnRendezvous

theorem bigEndian_l0 (j : Nat) : ∀ (x : Int) (l : List Int), 0 ≤ x → j ≤ l.length → l.length ≤ 1000000 → EvP (fun k => impl_bigEndian.l0 k x ((j : Int) - 1) l) (fun r => r.2.1 = BE j x ++ l.drop j) := by
  induction j with
  | zero =>
    intro x l hx hl hz
    exact EvP.step (fun k => impl_bigEndian.l0.eq k _ _ _) (EvP.neg (by omega) (EvP.some (by simp [BE])))
  | succ j ih =>
    intro x l hx hl hz
    refine EvP.step (fun k => impl_bigEndian.l0.eq k _ _ _) ?_
    rw [show ((j + 1 : Nat) : Int) - 1 = (j : Int) by omega]
    refine EvP.pos (by omega) (EvP.chk2 (by omega) (by omega) ?_)
    rw [i64w (n := (j : Int) - 1) (by omega) (by omega), Int.toNat_natCast, show (8 : Int) = ((8 : Nat) : Int) from rfl, shrI_pow (by decide), show (2 : Int) ^ 8 = 256 from rfl, u8w]
    refine (ih _ _ (by omega) (by simp; omega) (by simp; omega)).mono ?_
    intro r hr
    rw [hr, set_drop_self _ _ _ (by omega), BE]
    simp
theorem smallI_ok {m : Nat} (h : m ≤ 1000000) : smallI (m : Int) = true := by show Nat.blt m 68719476736 = true; rw [Nat.blt_eq]; omega
theorem bigEndian_ok (x : Int) (m : Nat) (hx : 0 ≤ x) (hm : m ≤ 1000000) : EvP (fun k => impl_bigEndian k x (m : Int)) (· = ((be m x, ()), ())) := by
  refine EvP.of (fun k => impl_bigEndian.eq k _ _) (EvP.chk (by simp [smallI_ok hm]) ?_)
  rw [i64w (n := (m : Int) - 1) (by omega) (by omega), Int.toNat_natCast]
  refine EvP.andK (bigEndian_l0 m x (List.replicate m 0) hx (by simp) (by simp; omega)) ?_
  rintro r hr
  rw [List.drop_eq_nil_of_le (by simp), List.append_nil] at hr
  rw [hr]
  exact EvP.some rfl
end Go.Proofs.YthkjjombaoffcaaGreatDoor.CFnRendezvous
