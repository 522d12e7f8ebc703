/- slices.Insert of texts at this seat: what it says. -/
import Derived.Test.YthkjjombaoffcaaGreatDoorInsP
import Derived.Test.YthkjjombaoffcaaGreatDoorShelf
import Derived.Test.YthkjjombaoffcaaGreatDoorProg
set_option linter.unusedVariables false
set_option linter.unusedSectionVars false
noncomputable section
namespace Go.Proofs.YthkjjombaoffcaaGreatDoorPM
open Go Go.RowKit Go.Proofs Go.Shelf
theorem ins_say : SayOk Tryz.prog (insS 39) :=
  sayOk_ins Tryz.laysNm2_22 (enters_mk (fn := Tryz.f39) (c := bodyOf Tryz.f39) (by kernel_rfl) (by kernel_rfl) (by kernel_rfl))
end Go.Proofs.YthkjjombaoffcaaGreatDoorPM
