/- One of some numbers is drawn. -/
import Derived.Test.YthkjjombaoffcaaGreatDoorQCuFnRendezvous
set_option linter.unusedVariables false
set_option linter.unusedSimpArgs false
namespace Go.Proofs.YthkjjombaoffcaaGreatDoor.CFnRendezvous
open Go Go.Proofs Go.Proofs.YthkjjombaoffcaaGreatDoorPM Go.Proofs.YthkjjombaoffcaaGreatDoor.Q Go.Proofs.YthkjjombaoffcaaGreatDoor.GFnRendezvous
theorem among_s {l : List Int} {a s b : Int} {list : List Int} {P : Int → Prop} (hP : ∀ y ∈ list, P y) (hn : 0 < list.length) (hl : Bytes l) (h0 : 0 ≤ a) (h1 : a ≤ b) (hb : b ≤ 4611686018427000000) :
    EvP (fun N => spec_l1Cur_among N list l a s) (fun r => P r.1.1 ∧ (∀ y ∈ r.2.1.1, 0 ≤ y ∧ y ≤ 255) ∧ 0 ≤ r.2.1.2.1 ∧ r.2.1.2.1 ≤ b + 2 ∧ True) :=
  (among_ok hl list hn a s h0 (by omega)).mono fun r h => by
    obtain ⟨p, q1, q2, q3⟩ := h
    exact ⟨hP _ p, by rw [q1]; exact hl, by omega, by omega, trivial⟩
end Go.Proofs.YthkjjombaoffcaaGreatDoor.CFnRendezvous
