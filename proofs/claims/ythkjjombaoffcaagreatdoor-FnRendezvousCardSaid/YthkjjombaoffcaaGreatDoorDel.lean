/- slices.Delete of texts at this seat: what it says. -/
import Derived.Test.YthkjjombaoffcaaGreatDoorDelP
import Derived.Test.YthkjjombaoffcaaGreatDoorShelf
import Derived.Test.YthkjjombaoffcaaGreatDoorProg
set_option linter.unusedVariables false
set_option linter.unusedSectionVars false
noncomputable section
namespace Go.Proofs.YthkjjombaoffcaaGreatDoorPM
open Go Go.RowKit Go.Proofs Go.Shelf
theorem del_str : ∃ ti, Tryz.prog.info? 9 = some ti ∧ ti.size = 1 := by
  obtain ⟨esz, _, ti, hti⟩ := @elOk_spec ⟨fun _ => False⟩ Tryz.prog 9 .str (show elOk Tryz.prog 9 .str = true by kernel_rfl)
  refine ⟨ti, hti, ?_⟩
  unfold szOf at esz
  rw [hti] at esz
  exact esz
theorem del_say : SayOk Tryz.prog (delS 28) :=
  sayOk_del (enters_mk (fn := Tryz.f28) (c := bodyOf Tryz.f28) (by kernel_rfl) (by kernel_rfl) (by kernel_rfl)) (fun b cap i j d w hH h1 h2 h3 h4 => by
    obtain ⟨ti, e1, e2⟩ := del_str
    exact Tryz.slices_Delete Value.string (fun _ => rfl) ⟨#[]⟩ Tryz.zeroValue9 ti e1 e2 b 0 cap i j d w hH h1 h2 h3 h4)
end Go.Proofs.YthkjjombaoffcaaGreatDoorPM
