/- strings.Trim at this seat: what it says. -/
import Derived.Test.YthkjjombaoffcaaGreatDoorTrimP
import Derived.Test.YthkjjombaoffcaaGreatDoorShelf
import Derived.Test.YthkjjombaoffcaaGreatDoorProg
import Derived.Shelf.Strings.SlTrimAscii
set_option linter.unusedVariables false
set_option linter.unusedSectionVars false
noncomputable section
namespace Go.Proofs.YthkjjombaoffcaaGreatDoorPM
open Go Go.RowKit Go.Proofs Go.Shelf
theorem trim_say : SayOk Tryz.prog (trimS 67) :=
  sayOk_trim (enters_mk (fn := Tryz.f67) (c := bodyOf Tryz.f67) (by kernel_rfl) (by kernel_rfl) (by kernel_rfl)) (fun s cs w h0 h1 h2 => Any.strings_Trim_laid Tryz.lays160 (by kernel_rfl) s cs w h0 h1 h2)
end Go.Proofs.YthkjjombaoffcaaGreatDoorPM
