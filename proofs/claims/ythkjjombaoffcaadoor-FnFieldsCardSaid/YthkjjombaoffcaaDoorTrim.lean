/- strings.Trim at this seat: what it says. -/
import Derived.Test.YthkjjombaoffcaaDoorTrimP
import Derived.Test.YthkjjombaoffcaaDoorShelf
import Derived.Test.YthkjjombaoffcaaDoorProg
import Derived.Shelf.Strings.SlTrimAscii
set_option linter.unusedVariables false
set_option linter.unusedSectionVars false
noncomputable section
namespace Go.Proofs.YthkjjombaoffcaaDoorPM
open Go Go.RowKit Go.Proofs Go.Shelf
theorem trim_say : SayOk Tryd.prog (trimS 108) :=
  sayOk_trim (enters_mk (fn := Tryd.f108) (c := bodyOf Tryd.f108) (by kernel_rfl) (by kernel_rfl) (by kernel_rfl)) (fun s cs w h0 h1 h2 => Any.strings_Trim_laid Tryd.lays160 (by kernel_rfl) s cs w h0 h1 h2)
end Go.Proofs.YthkjjombaoffcaaDoorPM
