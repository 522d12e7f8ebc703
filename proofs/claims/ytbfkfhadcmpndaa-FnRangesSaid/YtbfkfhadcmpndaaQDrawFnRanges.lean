/- The drawing cursor: tests, choices, rows of bytes. -/
import Derived.Test.YtbfkfhadcmpndaaQCurFnRanges
import Derived.Test.YtbfkfhadcmpndaaQList
set_option linter.unusedVariables false
set_option linter.unusedSimpArgs false
namespace Go.Proofs.Ytbfkfhadcmpndaa.CFnRanges
open Go Go.Proofs Go.Proofs.YtbfkfhadcmpndaaPM Go.Proofs.Ytbfkfhadcmpndaa.Q Go.Proofs.Ytbfkfhadcmpndaa.GFnRanges

theorem one_ok {l : List Int} (hl : Bytes l) (n a s : Int) (h0 : 0 ≤ a) (h1 : a ≤ 4611686018427387000) :
    EvP (fun N => spec_l1Cur_one N n l a s) (fun r => CuP l a 2 r.2) := by
  refine EvP.of (fun N => spec_l1Cur_one.eq N n l a s) (EvP.andK (pick_ok hl n a s h0 h1) ?_)
  rintro ⟨⟨x, ⟨⟩⟩, ⟨l', a', s', ⟨⟩⟩, ⟨⟩⟩ ⟨_, h⟩
  exact EvP.some h
theorem among_ok {l : List Int} (hl : Bytes l) (list : List Int) (hn : 0 < list.length) (a s : Int) (h0 : 0 ≤ a) (h1 : a ≤ 4611686018427387000) :
    EvP (fun N => spec_l1Cur_among N list l a s) (fun r => r.1.1 ∈ list ∧ CuP l a 2 r.2) := by
  refine EvP.of (fun N => spec_l1Cur_among.eq N list l a s) (EvP.andK (pick_ok hl _ a s h0 h1) ?_)
  rintro ⟨⟨x, ⟨⟩⟩, ⟨l', a', s', ⟨⟩⟩, ⟨⟩⟩ ⟨⟨h2, _, h3, _⟩, h⟩
  have hx : x < (list.length : Int) := h3 (by omega)
  refine EvP.chk2 h2 hx (EvP.some ⟨?_, h⟩)
  dsimp only at h2 ⊢
  rw [List.getD_eq_getElem?_getD, List.getElem?_eq_getElem (by omega : x.toNat < list.length)]
  exact List.getElem_mem _
end Go.Proofs.Ytbfkfhadcmpndaa.CFnRanges
