/- One of some texts is drawn. -/
import Derived.Test.YthkjjombaoffcaaGreatDoorQCuFnRendezvous
set_option linter.unusedVariables false
set_option linter.unusedSimpArgs false
namespace Go.Proofs.YthkjjombaoffcaaGreatDoor.CFnRendezvous
open Go Go.Proofs Go.Proofs.YthkjjombaoffcaaGreatDoorPM Go.Proofs.YthkjjombaoffcaaGreatDoor.Q Go.Proofs.YthkjjombaoffcaaGreatDoor.GFnRendezvous
theorem of_ok {l : List Int} (hl : Bytes l) (list : List ByteArray) (hn : 0 < list.length) (a s : Int) (h0 : 0 ≤ a) (h1 : a ≤ 4611686018427387000) :
    EvP (fun N => spec_l1Cur_of N list l a s) (fun r => r.1.1 ∈ list ∧ CuP l a 2 r.2) := by
  refine EvP.of (fun N => spec_l1Cur_of.eq N list l a s) (EvP.andK (pick_ok hl _ a s h0 h1) ?_)
  rintro ⟨⟨x, ⟨⟩⟩, ⟨l', a', s', ⟨⟩⟩, ⟨⟩⟩ ⟨⟨h2, _, h3, _⟩, h⟩
  have hx : x < (list.length : Int) := h3 (by omega)
  refine EvP.chk2 h2 hx (EvP.some ⟨?_, h⟩)
  dsimp only at h2 ⊢
  rw [List.getD_eq_getElem?_getD, List.getElem?_eq_getElem (by omega : x.toNat < list.length)]
  exact List.getElem_mem _
theorem of_s {l : List Int} {a s b : Int} {list : List ByteArray} {P : ByteArray → Prop} (hP : ∀ y ∈ list, P y) (hn : 0 < list.length) (hl : Bytes l) (h0 : 0 ≤ a) (h1 : a ≤ b) (hb : b ≤ 4611686018427000000) :
    EvP (fun N => spec_l1Cur_of N list l a s) (fun r => P r.1.1 ∧ (∀ y ∈ r.2.1.1, 0 ≤ y ∧ y ≤ 255) ∧ 0 ≤ r.2.1.2.1 ∧ r.2.1.2.1 ≤ b + 2 ∧ True) :=
  (of_ok hl list hn a s h0 (by omega)).mono fun r h => by
    obtain ⟨p, q1, q2, q3⟩ := h
    exact ⟨hP _ p, by rw [q1]; exact hl, by omega, by omega, trivial⟩
end Go.Proofs.YthkjjombaoffcaaGreatDoor.CFnRendezvous
