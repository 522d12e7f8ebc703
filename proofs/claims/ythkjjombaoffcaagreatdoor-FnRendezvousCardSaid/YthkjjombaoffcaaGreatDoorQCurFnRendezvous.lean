/- The drawing cursor: what its steps tell, and that they never stop. -/
import Derived.Test.YthkjjombaoffcaaGreatDoorQBase
import Derived.Test.YthkjjombaoffcaaGreatDoorGFnRendezvousx0
set_option linter.unusedVariables false
set_option linter.unusedSimpArgs false
namespace Go.Proofs.YthkjjombaoffcaaGreatDoor.CFnRendezvous
open Go Go.Proofs Go.Proofs.YthkjjombaoffcaaGreatDoorPM Go.Proofs.YthkjjombaoffcaaGreatDoor.Q Go.Proofs.YthkjjombaoffcaaGreatDoor.GFnRendezvous

theorem next_ok {l : List Int} (hl : Bytes l) (a s : Int) (h0 : 0 ≤ a) (h1 : a ≤ 4611686018427387904) :
    EvP (fun N => spec_l1Cur_next N l a s) (fun r => (0 ≤ r.1.1 ∧ r.1.1 ≤ 255) ∧ r.2.1.1 = l ∧ r.2.1.2.1 = a + 1) := by
  refine EvP.of (fun N => spec_l1Cur_next.eq N l a s) ?_
  have hr := Bytes.getD hl (Int.toNat a)
  have hg := conv255
  refine EvP.andK (Q := fun r => (0 ≤ r.1.2.1 ∧ r.1.2.1 ≤ 255) ∧ r.2.1.1 = l ∧ r.2.1.2.1 = a) ?_ ?_
  · refine EvP.ite (fun h => EvP.chk2 h0 h (EvP.some ?_)) (fun h => EvP.some ⟨⟨Int.le_refl _, by dsimp only; omega⟩, rfl, rfl⟩)
    dsimp only
    rw [i64w (by omega) (by omega)]
    exact ⟨hr, rfl, rfl⟩
  · rintro ⟨⟨⟨⟩, x, ⟨⟩⟩, ⟨l', a', s', ⟨⟩⟩, ⟨⟩⟩ ⟨hx, hl', ha'⟩
    obtain rfl : l' = l := hl'
    obtain rfl : a' = a := ha'
    dsimp only at hx ⊢
    rw [i64w (n := a' + 1) (by omega) (by omega)]
    exact EvP.ite (fun h => EvP.some ⟨hx, rfl, rfl⟩) (fun h => EvP.some ⟨hg _, rfl, rfl⟩)

/-- What a step of the cursor leaves: the code as it was, some of it passed. -/
def CuP (l : List Int) (a k : Int) (q : (List Int × (Int × (Int × Unit))) × Unit) : Prop := q.1.1 = l ∧ a ≤ q.1.2.1 ∧ q.1.2.1 ≤ a + k

theorem pick_ok {l : List Int} (hl : Bytes l) (n a s : Int) (h0 : 0 ≤ a) (h1 : a ≤ 4611686018427387000) :
    EvP (fun N => spec_l1Cur_pick N n l a s) (fun r => (0 ≤ r.1.1 ∧ r.1.1 ≤ 65535 ∧ (1 ≤ n → r.1.1 < n) ∧ (n ≤ 1 → r.1.1 = 0)) ∧ CuP l a 2 r.2) := by
  refine EvP.of (fun N => spec_l1Cur_pick.eq N n l a s) ?_
  refine EvP.ite (fun h => EvP.some ⟨⟨Int.le_refl _, by dsimp only; omega, fun _ => by show (0 : Int) < n; omega, fun _ => rfl⟩, rfl, by show a ≤ a; omega, by show a ≤ a + 2; omega⟩) (fun h => ?_)
  refine EvP.andK (next_ok hl a s h0 (by omega)) ?_
  rintro ⟨⟨x, ⟨⟩⟩, ⟨l', a', s', ⟨⟩⟩, ⟨⟩⟩ ⟨hx, hl', ha'⟩
  obtain rfl : l' = l := hl'
  obtain rfl : a' = a + 1 := ha'
  dsimp only at hx ⊢
  refine EvP.ite (fun h2 => ?_) (fun h2 => ?_)
  · refine EvP.andK (next_ok hl _ s' (by omega) (by omega)) ?_
    rintro ⟨⟨y, ⟨⟩⟩, ⟨l'', a', s'', ⟨⟩⟩, ⟨⟩⟩ ⟨hy, hl', ha'⟩
    obtain rfl : l'' = l' := hl'
    obtain rfl : a' = a + 1 + 1 := ha'
    dsimp only at hy ⊢
    refine EvP.nz (by omega) (EvP.some ?_)
    dsimp only
    rw [i64w (n := x * 256) (by omega) (by omega), i64w (n := x * 256 + y) (by omega) (by omega), Int.tmod_eq_emod_of_nonneg (by omega)]
    have e1 := Int.emod_nonneg (x * 256 + y) (show n ≠ 0 by omega)
    have e2 := Int.emod_lt_of_pos (x * 256 + y) (show 0 < n by omega)
    have e3 : (x * 256 + y) % n ≤ x * 256 + y := emod_le (by omega) (by omega)
    exact ⟨⟨e1, by omega, fun _ => e2, fun _ => by omega⟩, rfl, by dsimp only; omega, by dsimp only; omega⟩
  · refine EvP.nz (by omega) (EvP.some ?_)
    dsimp only
    rw [Int.tmod_eq_emod_of_nonneg (by omega)]
    have e1 := Int.emod_nonneg x (show n ≠ 0 by omega)
    have e2 := Int.emod_lt_of_pos x (show 0 < n by omega)
    have e3 : x % n ≤ x := emod_le (by omega) (by omega)
    exact ⟨⟨e1, by omega, fun _ => e2, fun _ => by omega⟩, rfl, by dsimp only; omega, by dsimp only; omega⟩
end Go.Proofs.YthkjjombaoffcaaGreatDoor.CFnRendezvous
