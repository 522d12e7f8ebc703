/- The drawing cursor: tests, choices, rows of bytes. -/
import Derived.Test.YthkjjombaoffcaaDoorQCurFnFields
import Derived.Test.YthkjjombaoffcaaDoorQList
set_option linter.unusedVariables false
set_option linter.unusedSimpArgs false
namespace Go.Proofs.YthkjjombaoffcaaDoor.CFnFields
open Go Go.Proofs Go.Proofs.YthkjjombaoffcaaDoorPM Go.Proofs.YthkjjombaoffcaaDoor.Q Go.Proofs.YthkjjombaoffcaaDoor.GFnFields

theorem one_ok {l : List Int} (hl : Bytes l) (n a s : Int) (h0 : 0 ≤ a) (h1 : a ≤ 4611686018427387000) :
    EvP (fun N => spec_l1Cur_one N n l a s) (fun r => CuP l a 2 r.2) := by
  refine EvP.of (fun N => spec_l1Cur_one.eq N n l a s) (EvP.andK (pick_ok hl n a s h0 h1) ?_)
  rintro ⟨⟨x, ⟨⟩⟩, ⟨l', a', s', ⟨⟩⟩, ⟨⟩⟩ ⟨_, h⟩
  exact EvP.some h
end Go.Proofs.YthkjjombaoffcaaDoor.CFnFields
