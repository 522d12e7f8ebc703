/- The number of some bytes, as the laws reckon it. -/
import Derived.Test.YthkjjombaoffcaaDoorQDrawFnFields
set_option linter.unusedVariables false
set_option linter.unusedSimpArgs false
namespace Go.Proofs.YthkjjombaoffcaaDoor.CFnFields
open Go Go.Proofs Go.Proofs.YthkjjombaoffcaaDoorPM Go.Proofs.YthkjjombaoffcaaDoor.Q Go.Proofs.YthkjjombaoffcaaDoor.GFnFields

theorem lawNumber_ok {l : List Int} (hl : Bytes l) (hs : l.length ≤ 140737488351232) : EvP (fun k => laws_numberOf k l) (fun r => 0 ≤ r.1.1 ∧ r.1.1 < 1000003) := by
  refine EvP.of (fun k => laws_numberOf.eq k _) (EvP.andK (Q := fun r => 0 ≤ r.1.1 ∧ r.1.1 < 1000003) ?_ fun r h => EvP.some h)
  refine EvP.count (f := fun N i (n : Int) => laws_numberOf.l0 N l (l.length : Int) n i) (n := l.length) (inv := fun i n => 0 ≤ n ∧ n < 1000003) ?_ ?_ 0 0 (by omega) ⟨by decide, by decide⟩
  · intro i n hi ⟨h1, h2⟩ next
    refine EvP.step (fun k => laws_numberOf.l0.eq k _ _ _ _) ?_
    have e3 : IntKind.i64.wrap ((i : Int) + 1) = ((i + 1 : Nat) : Int) := by rw [i64w (by omega) (by omega)]; omega
    have hx := Bytes.getD hl (Int.toNat (i : Int))
    rw [e3, i64w (n := 31 * n) (by omega) (by omega), i64w (n := l.getD (Int.toNat (i : Int)) 0) (by omega) (by omega), i64w (n := 31 * n + l.getD (Int.toNat (i : Int)) 0) (by omega) (by omega), Int.tmod_eq_emod_of_nonneg (by omega)]
    exact EvP.pos (by omega) (EvP.chk2 (by omega) (by omega) (next _ ⟨Int.emod_nonneg _ (by decide), Int.emod_lt_of_pos _ (by decide)⟩))
  · intro n h
    exact EvP.step (fun k => laws_numberOf.l0.eq k _ _ _ _) (EvP.neg (by omega) (EvP.some h))
end Go.Proofs.YthkjjombaoffcaaDoor.CFnFields
