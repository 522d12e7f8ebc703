/- The drawing cursor: tests, choices, rows of bytes. -/
import Derived.Test.YthkjjombaoffcaaGreatDoorQCurFnRendezvous
import Derived.Test.YthkjjombaoffcaaGreatDoorQList
set_option linter.unusedVariables false
set_option linter.unusedSimpArgs false
namespace Go.Proofs.YthkjjombaoffcaaGreatDoor.CFnRendezvous
open Go Go.Proofs Go.Proofs.YthkjjombaoffcaaGreatDoorPM Go.Proofs.YthkjjombaoffcaaGreatDoor.Q Go.Proofs.YthkjjombaoffcaaGreatDoor.GFnRendezvous

theorem one_ok {l : List Int} (hl : Bytes l) (n a s : Int) (h0 : 0 ≤ a) (h1 : a ≤ 4611686018427387000) :
    EvP (fun N => spec_l1Cur_one N n l a s) (fun r => CuP l a 2 r.2) := by
  refine EvP.of (fun N => spec_l1Cur_one.eq N n l a s) (EvP.andK (pick_ok hl n a s h0 h1) ?_)
  rintro ⟨⟨x, ⟨⟩⟩, ⟨l', a', s', ⟨⟩⟩, ⟨⟩⟩ ⟨_, h⟩
  exact EvP.some h
theorem among_ok {l : List Int} (hl : Bytes l) (list : List Int) (hn : 0 < list.length) (a s : Int) (h0 : 0 ≤ a) (h1 : a ≤ 4611686018427387000) :
    EvP (fun N => spec_l1Cur_among N list l a s) (fun r => r.1.1 ∈ list ∧ CuP l a 2 r.2) := by
  refine EvP.of (fun N => spec_l1Cur_among.eq N list l a s) (EvP.andK (pick_ok hl _ a s h0 h1) ?_)
  rintro ⟨⟨x, ⟨⟩⟩, ⟨l', a', s', ⟨⟩⟩, ⟨⟩⟩ ⟨⟨h2, _, h3, _⟩, h⟩
  have hx : x < (list.length : Int) := h3 (by omega)
  refine EvP.chk2 h2 hx (EvP.some ⟨?_, h⟩)
  dsimp only at h2 ⊢
  rw [List.getD_eq_getElem?_getD, List.getElem?_eq_getElem (by omega : x.toNat < list.length)]
  exact List.getElem_mem _
theorem sized_ok {l : List Int} (hl : Bytes l) (n a s : Int) (hn : 0 ≤ n) (hn2 : n ≤ 1000000) (h0 : 0 ≤ a) (h1 : a ≤ 4611686018424000000) :
    EvP (fun N => spec_l1Cur_sizedBytes N n l a s) (fun r => (CuP l a (2 * n) (r.2.1, ())) ∧ Bytes r.2.2.1 ∧ r.2.2.1.length = n.toNat) := by
  refine EvP.of (fun N => spec_l1Cur_sizedBytes.eq N n l a s) ?_
  have hs : smallI n = true := by
    cases n with
    | ofNat m => show Nat.blt m 68719476736 = true; rw [Nat.blt_eq]; have : ((m : Nat) : Int) ≤ 1000000 := hn2; omega
    | negSucc m => rfl
  refine EvP.chk (by simp [hn, hs]) (EvP.andK (Q := fun r => (CuP l a (2 * n) (r.2.1, ())) ∧ Bytes r.2.2.1 ∧ r.2.2.1.length = n.toNat) ?_ (fun r h => EvP.some h))
  obtain ⟨m, rfl⟩ := Int.eq_ofNat_of_zero_le hn
  rw [List.length_replicate, Int.toNat_natCast]
  refine EvP.count (f := fun N i (c : (List Int × (Int × Int)) × List Int) => spec_l1Cur_sizedBytes.l0 N (m : Int) i c.1.1 c.1.2.1 c.1.2.2 c.2) (n := m) (inv := fun i c => c.1.1 = l ∧ a ≤ c.1.2.1 ∧ c.1.2.1 ≤ a + 2 * i ∧ Bytes c.2 ∧ c.2.length = m) ?_ ?_ 0 ((l, (a, s)), List.replicate m 0) (by omega) ⟨rfl, Int.le_refl _, by dsimp only; omega, fun x hx => by rw [List.eq_of_mem_replicate hx]; decide, by simp⟩
  · rintro i ⟨⟨_, b, s'⟩, p⟩ hi ⟨rfl, h2, h3, h4, h5⟩ next
    dsimp only at h2 h3 h4 h5 ⊢
    refine EvP.step (fun n => spec_l1Cur_sizedBytes.l0.eq n _ _ _ _ _ _) (EvP.pos (by omega) (EvP.andK (pick_ok hl 256 b s' (by omega) (by omega)) ?_))
    rintro ⟨⟨x, ⟨⟩⟩, ⟨l', a', s'', ⟨⟩⟩, ⟨⟩⟩ ⟨⟨h6, _, h7, _⟩, hl', h8, h9⟩
    obtain rfl : l' = _ := hl'
    dsimp only at h6 h7 h8 h9 ⊢
    have e3 : IntKind.i64.wrap ((i : Int) + 1) = ((i + 1 : Nat) : Int) := by rw [i64w (by omega) (by omega)]; omega
    rw [e3]
    refine EvP.chk2 (by omega) (by omega) (next ((_, (a', s'')), _) ⟨rfl, by dsimp only; omega, by dsimp only; omega, ?_, by simp [h5]⟩)
    intro y hy
    rcases List.mem_or_eq_of_mem_set hy with hy | rfl
    · exact h4 y hy
    · have := u8_range x; omega
  · rintro ⟨⟨_, b, s'⟩, p⟩ ⟨rfl, h2, h3, h4, h5⟩
    refine EvP.step (fun n => spec_l1Cur_sizedBytes.l0.eq n _ _ _ _ _ _) (EvP.neg (by omega) (EvP.some ⟨⟨rfl, h2, by dsimp only at h3 ⊢; omega⟩, h4, h5⟩))
end Go.Proofs.YthkjjombaoffcaaGreatDoor.CFnRendezvous
