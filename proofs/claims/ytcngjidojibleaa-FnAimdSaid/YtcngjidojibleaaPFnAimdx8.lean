-- Written by a program of this session out of the translation; Lean checks it.
import Derived.Test.YtcngjidojibleaaPFnAimdx0
import Derived.Test.YtcngjidojibleaaPFnAimdx1
import Derived.Test.YtcngjidojibleaaPFnAimdx2
import Derived.Test.YtcngjidojibleaaPFnAimdx3
import Derived.Test.YtcngjidojibleaaPFnAimdx4
import Derived.Test.YtcngjidojibleaaPFnAimdx5
import Derived.Test.YtcngjidojibleaaPFnAimdx6
import Derived.Test.YtcngjidojibleaaPFnAimdx7
namespace Go.Proofs.Ytcngjidojibleaa.PFnAimd
open Go.RowKit Go.Proofs.YtcngjidojibleaaW.PrintWords Go.Proofs.YtcngjidojibleaaW.PrintLast Go.Proofs.YtcngjidojibleaaW.PrintMore
attribute [local go_sem] max2_int min2_int max_two min_two max_three min_three max_four min_four   -- for this text's walks alone
set_option linter.unusedVariables false
set_option linter.unusedSimpArgs false

attribute [local go_sem high] eqA37
/-! ### laws_FnAimd: function 6 -/
mutual
def laws_FnAimd.j0 : Nat → List Int → Int → Int → Bool → Bool → Int → Int → Int → Int → Int → Int → Int → Int → Option (Bool)
 | 0, _, _, _, _, _, _, _, _, _, _, _, _, _ => none
 | k + 1, x1, x6, x7, x9, x55, x372000, x372001, x372002, x372003, x378000, x378001, x378002, x378003 => if x55 = true then (some false) else (if x9 = true then (if (wrap64 (x378000 - x372000)) < 0 then (laws_FnAimd.j1 k x1 x6 x7 (wrap64 (x378000 - x372000)) true x372000 x372001 x372002 x372003 x378000 x378001 x378002 x378003) else (if x7 ≤ x372002 then (if (wrap64 (x378000 - x372000)) = 0 then ((impl_GoodWindow.f x378000 x378001 x378002 x378003).bind fun t384 => (laws_FnAimd.j1 k x1 x6 x7 (wrap64 (x378000 - x372000)) (!t384) x372000 x372001 x372002 x372003 x378000 x378001 x378002 x378003)) else (laws_FnAimd.j1 k x1 x6 x7 (wrap64 (x378000 - x372000)) true x372000 x372001 x372002 x372003 x378000 x378001 x378002 x378003)) else ((impl_GoodWindow.f x378000 x378001 x378002 x378003).bind fun t385 => (laws_FnAimd.j1 k x1 x6 x7 (wrap64 (x378000 - x372000)) (!t385) x372000 x372001 x372002 x372003 x378000 x378001 x378002 x378003)))) else (laws_FnAimd.j4 k x1))
def laws_FnAimd.j4 : Nat → List Int → Option (Bool)
 | 0, _ => none
 | k + 1, x1 => (spec_DrawPlayWindow.f k x1).bind fun t386 => ((impl_PlayWindow.f k t386).bind fun bt389 => ((spec_PlayWindow.f k t386).bind fun bt398 => (if (bt389.2.2.2.2.2 != bt398.2.2.2.2.2) = true then (laws_FnAimd.j5 k bt389.2.2.2.2.1 bt389.2.2.2.2.2 true bt389.1 bt389.2.1 bt389.2.2.1 bt389.2.2.2.1) else ((laws_sameInts.f k bt389.2.2.2.2.1 bt398.2.2.2.2.1).bind fun t407 => (laws_FnAimd.j5 k bt389.2.2.2.2.1 bt389.2.2.2.2.2 (!t407) bt389.1 bt389.2.1 bt389.2.2.1 bt389.2.2.2.1)))))
def laws_FnAimd.j5 : Nat → List Int → Bool → Bool → Int → Int → Int → Int → Option (Bool)
 | 0, _, _, _, _, _, _, _ => none
 | k + 1, x15, x16, x142, x398000, x398001, x398002, x398003 => if x142 = true then (some false) else (laws_FnAimd.l0 k x16 x15 (x15.length : Int) 0 x398000 x398001 x398002 x398003)
def laws_FnAimd.l0 : Nat → Bool → List Int → Int → Int → Int → Int → Int → Int → Option (Bool)
 | 0, _, _, _, _, _, _, _, _ => none
 | k + 1, x16, x143, x144, x145, x398000, x398001, x398002, x398003 => if x145 < x144 then (if 0 ≤ x145 then (if x145 < (x143.length : Int) then (if (rd x143 x145) < 2400 then (some false) else (laws_FnAimd.l0 k x16 x143 x144 (wrap64 (x145 + 1)) x398000 x398001 x398002 x398003)) else (none)) else (none)) else (if x16 = true then ((impl_GoodWindow.f x398000 x398001 x398002 x398003).bind fun t408 => (some t408)) else (some true))
def laws_FnAimd.j1 : Nat → List Int → Int → Int → Int → Bool → Int → Int → Int → Int → Int → Int → Int → Int → Option (Bool)
 | 0, _, _, _, _, _, _, _, _, _, _, _, _, _ => none
 | k + 1, x1, x6, x7, x12, x78, x372000, x372001, x372002, x372003, x378000, x378001, x378002, x378003 => if x78 = true then (some false) else (if x7 > x372002 then (if x372000 < x372001 then (if x12 = x6 then (laws_FnAimd.j2 k x1 x6 x7 x12 false x372000 x372001 x372002 x372003) else (laws_FnAimd.j2 k x1 x6 x7 x12 (x378000 != 100000000) x372000 x372001 x372002 x372003)) else (laws_FnAimd.j2 k x1 x6 x7 x12 false x372000 x372001 x372002 x372003)) else (laws_FnAimd.j2 k x1 x6 x7 x12 false x372000 x372001 x372002 x372003))
def laws_FnAimd.j2 : Nat → List Int → Int → Int → Int → Bool → Int → Int → Int → Int → Option (Bool)
 | 0, _, _, _, _, _, _, _, _, _ => none
 | k + 1, x1, x6, x7, x12, x99, x372000, x372001, x372002, x372003 => if x99 = true then (some false) else (if x7 > x372002 then (if x372000 ≥ x372001 then (laws_FnAimd.j3 k x1 (decide ((wrap64 (x12 * x372000)) > (wrap64 (1200 * x6))))) else (laws_FnAimd.j3 k x1 false)) else (laws_FnAimd.j3 k x1 false))
def laws_FnAimd.j3 : Nat → List Int → Bool → Option (Bool)
 | 0, _, _ => none
 | k + 1, x1, x119 => if x119 = true then (some false) else (laws_FnAimd.j4 k x1)
end
def laws_FnAimd.f (k : Nat) (l0 : List Int) (l1 : List Int) : Option (Bool) := if (wrap64 ((l0.length : Int) + (l1.length : Int))) > 1048576 then (some true) else ((spec_DrawAckedBytes.f k l0).bind fun bt365 => ((impl_AckedBytes.f k bt365.1 bt365.2.1 bt365.2.2.1 bt365.2.2.2.1 bt365.2.2.2.2.1 bt365.2.2.2.2.2).bind fun bt372 => ((spec_AckedBytes.f k bt365.1 bt365.2.1 bt365.2.2.1 bt365.2.2.2.1 bt365.2.2.2.2.1 bt365.2.2.2.2.2).bind fun bt378 => (if (bt372.2.2.2.2 != bt378.2.2.2.2) = true then (laws_FnAimd.j0 k l1 bt365.2.2.2.2.1 bt365.2.2.2.2.2 bt372.2.2.2.2 true bt365.1 bt365.2.1 bt365.2.2.1 bt365.2.2.2.1 bt372.1 bt372.2.1 bt372.2.2.1 bt372.2.2.2.1) else (laws_FnAimd.j0 k l1 bt365.2.2.2.2.1 bt365.2.2.2.2.2 bt372.2.2.2.2 (!(bt372.1 == bt378.1) || (!(bt372.2.1 == bt378.2.1) || (!(bt372.2.2.1 == bt378.2.2.1) || (!(bt372.2.2.2.1 == bt378.2.2.2.1))))) bt365.1 bt365.2.1 bt365.2.2.1 bt365.2.2.2.1 bt372.1 bt372.2.1 bt372.2.2.1 bt372.2.2.2.1)))))
theorem laws_FnAimd.mono_l : ∀ k, (∀ y0 y1 y2 y3 y4 y5 y6 y7 y8 y9 y10 y11 y12, LeO (laws_FnAimd.j0 k y0 y1 y2 y3 y4 y5 y6 y7 y8 y9 y10 y11 y12) (laws_FnAimd.j0 (k + 1) y0 y1 y2 y3 y4 y5 y6 y7 y8 y9 y10 y11 y12)) ∧ (∀ y0, LeO (laws_FnAimd.j4 k y0) (laws_FnAimd.j4 (k + 1) y0)) ∧ (∀ y0 y1 y2 y3 y4 y5 y6, LeO (laws_FnAimd.j5 k y0 y1 y2 y3 y4 y5 y6) (laws_FnAimd.j5 (k + 1) y0 y1 y2 y3 y4 y5 y6)) ∧ (∀ y0 y1 y2 y3 y4 y5 y6 y7, LeO (laws_FnAimd.l0 k y0 y1 y2 y3 y4 y5 y6 y7) (laws_FnAimd.l0 (k + 1) y0 y1 y2 y3 y4 y5 y6 y7)) ∧ (∀ y0 y1 y2 y3 y4 y5 y6 y7 y8 y9 y10 y11 y12, LeO (laws_FnAimd.j1 k y0 y1 y2 y3 y4 y5 y6 y7 y8 y9 y10 y11 y12) (laws_FnAimd.j1 (k + 1) y0 y1 y2 y3 y4 y5 y6 y7 y8 y9 y10 y11 y12)) ∧ (∀ y0 y1 y2 y3 y4 y5 y6 y7 y8, LeO (laws_FnAimd.j2 k y0 y1 y2 y3 y4 y5 y6 y7 y8) (laws_FnAimd.j2 (k + 1) y0 y1 y2 y3 y4 y5 y6 y7 y8)) ∧ (∀ y0 y1, LeO (laws_FnAimd.j3 k y0 y1) (laws_FnAimd.j3 (k + 1) y0 y1))
 | 0 => ⟨fun _ _ _ _ _ _ _ _ _ _ _ _ _ r h => by simp [laws_FnAimd.j0] at h, fun _ r h => by simp [laws_FnAimd.j4] at h, fun _ _ _ _ _ _ _ r h => by simp [laws_FnAimd.j5] at h, fun _ _ _ _ _ _ _ _ r h => by simp [laws_FnAimd.l0] at h, fun _ _ _ _ _ _ _ _ _ _ _ _ _ r h => by simp [laws_FnAimd.j1] at h, fun _ _ _ _ _ _ _ _ _ r h => by simp [laws_FnAimd.j2] at h, fun _ _ r h => by simp [laws_FnAimd.j3] at h⟩
 | k + 1 => by
  obtain ⟨ih0, ih1, ih2, ih3, ih4, ih5, ih6⟩ := laws_FnAimd.mono_l k
  refine ⟨?_, ?_, ?_, ?_, ?_, ?_, ?_⟩
  ·intro y0 y1 y2 y3 y4 y5 y6 y7 y8 y9 y10 y11 y12
   unfold laws_FnAimd.j0
   repeat' first
   | (with_reducible exact ih0 _ _ _ _ _ _ _ _ _ _ _ _ _)
   | (with_reducible exact ih1 _)
   | (with_reducible exact ih2 _ _ _ _ _ _ _)
   | (with_reducible exact ih3 _ _ _ _ _ _ _ _)
   | (with_reducible exact ih4 _ _ _ _ _ _ _ _ _ _ _ _ _)
   | (with_reducible exact ih5 _ _ _ _ _ _ _ _ _)
   | (with_reducible exact ih6 _ _)
   | (with_reducible exact impl_AckedBytes.mono _ _ _ _ _ _ _)
   | (with_reducible exact impl_PlayWindow.mono _ _)
   | (with_reducible exact laws_sameInts.mono _ _ _)
   | (with_reducible exact spec_AckedBytes.mono _ _ _ _ _ _ _)
   | (with_reducible exact spec_DrawAckedBytes.mono _ _)
   | (with_reducible exact spec_DrawPlayWindow.mono _ _)
   | (with_reducible exact spec_PlayWindow.mono _ _)
   | (with_reducible exact LeO.refl _)
   | (with_reducible exact LeO.none _)
   | (with_reducible refine LeO.ite ?_ ?_)
   | (with_reducible refine LeO.bind ?_ (fun _ => ?_))
   | exact ih0 _ _ _ _ _ _ _ _ _ _ _ _ _
   | exact ih1 _
   | exact ih2 _ _ _ _ _ _ _
   | exact ih3 _ _ _ _ _ _ _ _
   | exact ih4 _ _ _ _ _ _ _ _ _ _ _ _ _
   | exact ih5 _ _ _ _ _ _ _ _ _
   | exact ih6 _ _
   | exact impl_AckedBytes.mono _ _ _ _ _ _ _
   | exact impl_PlayWindow.mono _ _
   | exact laws_sameInts.mono _ _ _
   | exact spec_AckedBytes.mono _ _ _ _ _ _ _
   | exact spec_DrawAckedBytes.mono _ _
   | exact spec_DrawPlayWindow.mono _ _
   | exact spec_PlayWindow.mono _ _
   | exact LeO.none _
   | refine LeO.ite ?_ ?_
   | refine LeO.bind ?_ (fun _ => ?_)
  ·intro y0
   unfold laws_FnAimd.j4
   repeat' first
   | (with_reducible exact ih0 _ _ _ _ _ _ _ _ _ _ _ _ _)
   | (with_reducible exact ih1 _)
   | (with_reducible exact ih2 _ _ _ _ _ _ _)
   | (with_reducible exact ih3 _ _ _ _ _ _ _ _)
   | (with_reducible exact ih4 _ _ _ _ _ _ _ _ _ _ _ _ _)
   | (with_reducible exact ih5 _ _ _ _ _ _ _ _ _)
   | (with_reducible exact ih6 _ _)
   | (with_reducible exact impl_AckedBytes.mono _ _ _ _ _ _ _)
   | (with_reducible exact impl_PlayWindow.mono _ _)
   | (with_reducible exact laws_sameInts.mono _ _ _)
   | (with_reducible exact spec_AckedBytes.mono _ _ _ _ _ _ _)
   | (with_reducible exact spec_DrawAckedBytes.mono _ _)
   | (with_reducible exact spec_DrawPlayWindow.mono _ _)
   | (with_reducible exact spec_PlayWindow.mono _ _)
   | (with_reducible exact LeO.refl _)
   | (with_reducible exact LeO.none _)
   | (with_reducible refine LeO.ite ?_ ?_)
   | (with_reducible refine LeO.bind ?_ (fun _ => ?_))
   | exact ih0 _ _ _ _ _ _ _ _ _ _ _ _ _
   | exact ih1 _
   | exact ih2 _ _ _ _ _ _ _
   | exact ih3 _ _ _ _ _ _ _ _
   | exact ih4 _ _ _ _ _ _ _ _ _ _ _ _ _
   | exact ih5 _ _ _ _ _ _ _ _ _
   | exact ih6 _ _
   | exact impl_AckedBytes.mono _ _ _ _ _ _ _
   | exact impl_PlayWindow.mono _ _
   | exact laws_sameInts.mono _ _ _
   | exact spec_AckedBytes.mono _ _ _ _ _ _ _
   | exact spec_DrawAckedBytes.mono _ _
   | exact spec_DrawPlayWindow.mono _ _
   | exact spec_PlayWindow.mono _ _
   | exact LeO.none _
   | refine LeO.ite ?_ ?_
   | refine LeO.bind ?_ (fun _ => ?_)
  ·intro y0 y1 y2 y3 y4 y5 y6
   unfold laws_FnAimd.j5
   repeat' first
   | (with_reducible exact ih0 _ _ _ _ _ _ _ _ _ _ _ _ _)
   | (with_reducible exact ih1 _)
   | (with_reducible exact ih2 _ _ _ _ _ _ _)
   | (with_reducible exact ih3 _ _ _ _ _ _ _ _)
   | (with_reducible exact ih4 _ _ _ _ _ _ _ _ _ _ _ _ _)
   | (with_reducible exact ih5 _ _ _ _ _ _ _ _ _)
   | (with_reducible exact ih6 _ _)
   | (with_reducible exact impl_AckedBytes.mono _ _ _ _ _ _ _)
   | (with_reducible exact impl_PlayWindow.mono _ _)
   | (with_reducible exact laws_sameInts.mono _ _ _)
   | (with_reducible exact spec_AckedBytes.mono _ _ _ _ _ _ _)
   | (with_reducible exact spec_DrawAckedBytes.mono _ _)
   | (with_reducible exact spec_DrawPlayWindow.mono _ _)
   | (with_reducible exact spec_PlayWindow.mono _ _)
   | (with_reducible exact LeO.refl _)
   | (with_reducible exact LeO.none _)
   | (with_reducible refine LeO.ite ?_ ?_)
   | (with_reducible refine LeO.bind ?_ (fun _ => ?_))
   | exact ih0 _ _ _ _ _ _ _ _ _ _ _ _ _
   | exact ih1 _
   | exact ih2 _ _ _ _ _ _ _
   | exact ih3 _ _ _ _ _ _ _ _
   | exact ih4 _ _ _ _ _ _ _ _ _ _ _ _ _
   | exact ih5 _ _ _ _ _ _ _ _ _
   | exact ih6 _ _
   | exact impl_AckedBytes.mono _ _ _ _ _ _ _
   | exact impl_PlayWindow.mono _ _
   | exact laws_sameInts.mono _ _ _
   | exact spec_AckedBytes.mono _ _ _ _ _ _ _
   | exact spec_DrawAckedBytes.mono _ _
   | exact spec_DrawPlayWindow.mono _ _
   | exact spec_PlayWindow.mono _ _
   | exact LeO.none _
   | refine LeO.ite ?_ ?_
   | refine LeO.bind ?_ (fun _ => ?_)
  ·intro y0 y1 y2 y3 y4 y5 y6 y7
   unfold laws_FnAimd.l0
   repeat' first
   | (with_reducible exact ih0 _ _ _ _ _ _ _ _ _ _ _ _ _)
   | (with_reducible exact ih1 _)
   | (with_reducible exact ih2 _ _ _ _ _ _ _)
   | (with_reducible exact ih3 _ _ _ _ _ _ _ _)
   | (with_reducible exact ih4 _ _ _ _ _ _ _ _ _ _ _ _ _)
   | (with_reducible exact ih5 _ _ _ _ _ _ _ _ _)
   | (with_reducible exact ih6 _ _)
   | (with_reducible exact impl_AckedBytes.mono _ _ _ _ _ _ _)
   | (with_reducible exact impl_PlayWindow.mono _ _)
   | (with_reducible exact laws_sameInts.mono _ _ _)
   | (with_reducible exact spec_AckedBytes.mono _ _ _ _ _ _ _)
   | (with_reducible exact spec_DrawAckedBytes.mono _ _)
   | (with_reducible exact spec_DrawPlayWindow.mono _ _)
   | (with_reducible exact spec_PlayWindow.mono _ _)
   | (with_reducible exact LeO.refl _)
   | (with_reducible exact LeO.none _)
   | (with_reducible refine LeO.ite ?_ ?_)
   | (with_reducible refine LeO.bind ?_ (fun _ => ?_))
   | exact ih0 _ _ _ _ _ _ _ _ _ _ _ _ _
   | exact ih1 _
   | exact ih2 _ _ _ _ _ _ _
   | exact ih3 _ _ _ _ _ _ _ _
   | exact ih4 _ _ _ _ _ _ _ _ _ _ _ _ _
   | exact ih5 _ _ _ _ _ _ _ _ _
   | exact ih6 _ _
   | exact impl_AckedBytes.mono _ _ _ _ _ _ _
   | exact impl_PlayWindow.mono _ _
   | exact laws_sameInts.mono _ _ _
   | exact spec_AckedBytes.mono _ _ _ _ _ _ _
   | exact spec_DrawAckedBytes.mono _ _
   | exact spec_DrawPlayWindow.mono _ _
   | exact spec_PlayWindow.mono _ _
   | exact LeO.none _
   | refine LeO.ite ?_ ?_
   | refine LeO.bind ?_ (fun _ => ?_)
  ·intro y0 y1 y2 y3 y4 y5 y6 y7 y8 y9 y10 y11 y12
   unfold laws_FnAimd.j1
   repeat' first
   | (with_reducible exact ih0 _ _ _ _ _ _ _ _ _ _ _ _ _)
   | (with_reducible exact ih1 _)
   | (with_reducible exact ih2 _ _ _ _ _ _ _)
   | (with_reducible exact ih3 _ _ _ _ _ _ _ _)
   | (with_reducible exact ih4 _ _ _ _ _ _ _ _ _ _ _ _ _)
   | (with_reducible exact ih5 _ _ _ _ _ _ _ _ _)
   | (with_reducible exact ih6 _ _)
   | (with_reducible exact impl_AckedBytes.mono _ _ _ _ _ _ _)
   | (with_reducible exact impl_PlayWindow.mono _ _)
   | (with_reducible exact laws_sameInts.mono _ _ _)
   | (with_reducible exact spec_AckedBytes.mono _ _ _ _ _ _ _)
   | (with_reducible exact spec_DrawAckedBytes.mono _ _)
   | (with_reducible exact spec_DrawPlayWindow.mono _ _)
   | (with_reducible exact spec_PlayWindow.mono _ _)
   | (with_reducible exact LeO.refl _)
   | (with_reducible exact LeO.none _)
   | (with_reducible refine LeO.ite ?_ ?_)
   | (with_reducible refine LeO.bind ?_ (fun _ => ?_))
   | exact ih0 _ _ _ _ _ _ _ _ _ _ _ _ _
   | exact ih1 _
   | exact ih2 _ _ _ _ _ _ _
   | exact ih3 _ _ _ _ _ _ _ _
   | exact ih4 _ _ _ _ _ _ _ _ _ _ _ _ _
   | exact ih5 _ _ _ _ _ _ _ _ _
   | exact ih6 _ _
   | exact impl_AckedBytes.mono _ _ _ _ _ _ _
   | exact impl_PlayWindow.mono _ _
   | exact laws_sameInts.mono _ _ _
   | exact spec_AckedBytes.mono _ _ _ _ _ _ _
   | exact spec_DrawAckedBytes.mono _ _
   | exact spec_DrawPlayWindow.mono _ _
   | exact spec_PlayWindow.mono _ _
   | exact LeO.none _
   | refine LeO.ite ?_ ?_
   | refine LeO.bind ?_ (fun _ => ?_)
  ·intro y0 y1 y2 y3 y4 y5 y6 y7 y8
   unfold laws_FnAimd.j2
   repeat' first
   | (with_reducible exact ih0 _ _ _ _ _ _ _ _ _ _ _ _ _)
   | (with_reducible exact ih1 _)
   | (with_reducible exact ih2 _ _ _ _ _ _ _)
   | (with_reducible exact ih3 _ _ _ _ _ _ _ _)
   | (with_reducible exact ih4 _ _ _ _ _ _ _ _ _ _ _ _ _)
   | (with_reducible exact ih5 _ _ _ _ _ _ _ _ _)
   | (with_reducible exact ih6 _ _)
   | (with_reducible exact impl_AckedBytes.mono _ _ _ _ _ _ _)
   | (with_reducible exact impl_PlayWindow.mono _ _)
   | (with_reducible exact laws_sameInts.mono _ _ _)
   | (with_reducible exact spec_AckedBytes.mono _ _ _ _ _ _ _)
   | (with_reducible exact spec_DrawAckedBytes.mono _ _)
   | (with_reducible exact spec_DrawPlayWindow.mono _ _)
   | (with_reducible exact spec_PlayWindow.mono _ _)
   | (with_reducible exact LeO.refl _)
   | (with_reducible exact LeO.none _)
   | (with_reducible refine LeO.ite ?_ ?_)
   | (with_reducible refine LeO.bind ?_ (fun _ => ?_))
   | exact ih0 _ _ _ _ _ _ _ _ _ _ _ _ _
   | exact ih1 _
   | exact ih2 _ _ _ _ _ _ _
   | exact ih3 _ _ _ _ _ _ _ _
   | exact ih4 _ _ _ _ _ _ _ _ _ _ _ _ _
   | exact ih5 _ _ _ _ _ _ _ _ _
   | exact ih6 _ _
   | exact impl_AckedBytes.mono _ _ _ _ _ _ _
   | exact impl_PlayWindow.mono _ _
   | exact laws_sameInts.mono _ _ _
   | exact spec_AckedBytes.mono _ _ _ _ _ _ _
   | exact spec_DrawAckedBytes.mono _ _
   | exact spec_DrawPlayWindow.mono _ _
   | exact spec_PlayWindow.mono _ _
   | exact LeO.none _
   | refine LeO.ite ?_ ?_
   | refine LeO.bind ?_ (fun _ => ?_)
  ·intro y0 y1
   unfold laws_FnAimd.j3
   repeat' first
   | (with_reducible exact ih0 _ _ _ _ _ _ _ _ _ _ _ _ _)
   | (with_reducible exact ih1 _)
   | (with_reducible exact ih2 _ _ _ _ _ _ _)
   | (with_reducible exact ih3 _ _ _ _ _ _ _ _)
   | (with_reducible exact ih4 _ _ _ _ _ _ _ _ _ _ _ _ _)
   | (with_reducible exact ih5 _ _ _ _ _ _ _ _ _)
   | (with_reducible exact ih6 _ _)
   | (with_reducible exact impl_AckedBytes.mono _ _ _ _ _ _ _)
   | (with_reducible exact impl_PlayWindow.mono _ _)
   | (with_reducible exact laws_sameInts.mono _ _ _)
   | (with_reducible exact spec_AckedBytes.mono _ _ _ _ _ _ _)
   | (with_reducible exact spec_DrawAckedBytes.mono _ _)
   | (with_reducible exact spec_DrawPlayWindow.mono _ _)
   | (with_reducible exact spec_PlayWindow.mono _ _)
   | (with_reducible exact LeO.refl _)
   | (with_reducible exact LeO.none _)
   | (with_reducible refine LeO.ite ?_ ?_)
   | (with_reducible refine LeO.bind ?_ (fun _ => ?_))
   | exact ih0 _ _ _ _ _ _ _ _ _ _ _ _ _
   | exact ih1 _
   | exact ih2 _ _ _ _ _ _ _
   | exact ih3 _ _ _ _ _ _ _ _
   | exact ih4 _ _ _ _ _ _ _ _ _ _ _ _ _
   | exact ih5 _ _ _ _ _ _ _ _ _
   | exact ih6 _ _
   | exact impl_AckedBytes.mono _ _ _ _ _ _ _
   | exact impl_PlayWindow.mono _ _
   | exact laws_sameInts.mono _ _ _
   | exact spec_AckedBytes.mono _ _ _ _ _ _ _
   | exact spec_DrawAckedBytes.mono _ _
   | exact spec_DrawPlayWindow.mono _ _
   | exact spec_PlayWindow.mono _ _
   | exact LeO.none _
   | refine LeO.ite ?_ ?_
   | refine LeO.bind ?_ (fun _ => ?_)
theorem laws_FnAimd.mono : ∀ a0 a1 k, LeO (laws_FnAimd.f k a0 a1) (laws_FnAimd.f (k + 1) a0 a1) := by
 intro a0 a1 k
 obtain ⟨ih0, ih1, ih2, ih3, ih4, ih5, ih6⟩ := laws_FnAimd.mono_l k
 unfold laws_FnAimd.f
 repeat' first
   | (with_reducible exact ih0 _ _ _ _ _ _ _ _ _ _ _ _ _)
   | (with_reducible exact ih1 _)
   | (with_reducible exact ih2 _ _ _ _ _ _ _)
   | (with_reducible exact ih3 _ _ _ _ _ _ _ _)
   | (with_reducible exact ih4 _ _ _ _ _ _ _ _ _ _ _ _ _)
   | (with_reducible exact ih5 _ _ _ _ _ _ _ _ _)
   | (with_reducible exact ih6 _ _)
   | (with_reducible exact impl_AckedBytes.mono _ _ _ _ _ _ _)
   | (with_reducible exact impl_PlayWindow.mono _ _)
   | (with_reducible exact laws_sameInts.mono _ _ _)
   | (with_reducible exact spec_AckedBytes.mono _ _ _ _ _ _ _)
   | (with_reducible exact spec_DrawAckedBytes.mono _ _)
   | (with_reducible exact spec_DrawPlayWindow.mono _ _)
   | (with_reducible exact spec_PlayWindow.mono _ _)
   | (with_reducible exact LeO.refl _)
   | (with_reducible exact LeO.none _)
   | (with_reducible refine LeO.ite ?_ ?_)
   | (with_reducible refine LeO.bind ?_ (fun _ => ?_))
   | exact ih0 _ _ _ _ _ _ _ _ _ _ _ _ _
   | exact ih1 _
   | exact ih2 _ _ _ _ _ _ _
   | exact ih3 _ _ _ _ _ _ _ _
   | exact ih4 _ _ _ _ _ _ _ _ _ _ _ _ _
   | exact ih5 _ _ _ _ _ _ _ _ _
   | exact ih6 _ _
   | exact impl_AckedBytes.mono _ _ _ _ _ _ _
   | exact impl_PlayWindow.mono _ _
   | exact laws_sameInts.mono _ _ _
   | exact spec_AckedBytes.mono _ _ _ _ _ _ _
   | exact spec_DrawAckedBytes.mono _ _
   | exact spec_DrawPlayWindow.mono _ _
   | exact spec_PlayWindow.mono _ _
   | exact LeO.none _
   | refine LeO.ite ?_ ?_
   | refine LeO.bind ?_ (fun _ => ?_)
set_option maxHeartbeats 8000000 in
set_option maxRecDepth 100000 in
theorem laws_FnAimd.calls (k : Nat) (A0 : Option Addr) (c0 : Nat) (l0 : List Int) (A1 : Option Addr) (c1 : Nat) (l1 : List Int) (r : Bool) (w : World) (hr0 : Kd.C (Kd.int .u8) w A0 l0.length l0) (hc0 : l0.length ≤ c0) (hr1 : Kd.C (Kd.int .u8) w A1 l1.length l1) (hc1 : l1.length ≤ c1) (h : laws_FnAimd.f k l0 l1 = some r) :
  Calls Try.prog 6 #[.slice A0 l0.length c0, .slice A1 l1.length c1] w fun e w' => e = .returned (.bool r) ∧ Below w.heap.size w w' := by
 have hu37 := Try.underlying37
 have HR0 := Aside0.mk hr0
 have HC0 := Aside0.mk hc0
 clear hr0 hc0
 have HR1 := Aside0.mk hr1
 have HC1 := Aside0.mk hc1
 clear hr1 hc1
 have HB := Aside0.mk (Below.refl w.heap.size w)
 have H : (if (wrap64 ((l0.length : Int) + (l1.length : Int))) > 1048576 then (some true) else ((spec_DrawAckedBytes.f k l0).bind fun bt365 => ((impl_AckedBytes.f k bt365.1 bt365.2.1 bt365.2.2.1 bt365.2.2.2.1 bt365.2.2.2.2.1 bt365.2.2.2.2.2).bind fun bt372 => ((spec_AckedBytes.f k bt365.1 bt365.2.1 bt365.2.2.1 bt365.2.2.2.1 bt365.2.2.2.2.1 bt365.2.2.2.2.2).bind fun bt378 => (if (bt372.2.2.2.2 != bt378.2.2.2.2) = true then (laws_FnAimd.j0 k l1 bt365.2.2.2.2.1 bt365.2.2.2.2.2 bt372.2.2.2.2 true bt365.1 bt365.2.1 bt365.2.2.1 bt365.2.2.2.1 bt372.1 bt372.2.1 bt372.2.2.1 bt372.2.2.2.1) else (laws_FnAimd.j0 k l1 bt365.2.2.2.2.1 bt365.2.2.2.2.2 bt372.2.2.2.2 (!(bt372.1 == bt378.1) || (!(bt372.2.1 == bt378.2.1) || (!(bt372.2.2.1 == bt378.2.2.1) || (!(bt372.2.2.2.1 == bt378.2.2.2.1))))) bt365.1 bt365.2.1 bt365.2.2.1 bt365.2.2.2.1 bt372.1 bt372.2.1 bt372.2.2.1 bt372.2.2.2.1)))))) = some r := h
 clear h
 by_cases c3 : (wrap64 ((l0.length : Int) + (l1.length : Int))) > 1048576
 ·rw [if_pos c3] at H
  have c3b0 : decide (1048576 < (wrap64 ((l0.length : Int) + (l1.length : Int)))) = true := decide_eq_true c3
  clear c3
  obtain rfl := Option.some.inj H
  go_enter Try.func6, Try.ntmps6
  go_wp2
  go_ret
  exact ⟨q_6, q_3⟩
 ·rw [if_neg c3] at H
  have c3b0 : decide (1048576 < (wrap64 ((l0.length : Int) + (l1.length : Int)))) = false := decide_eq_false c3
  clear c3
  replace H := Option.bind_eq_some_iff.mp H
  obtain ⟨⟨t365, t366, t367, t368, t369, t370⟩, A40, H⟩ := H
  replace H : ((impl_AckedBytes.f k t365 t366 t367 t368 t369 t370).bind fun bt372 => ((spec_AckedBytes.f k t365 t366 t367 t368 t369 t370).bind fun bt378 => (if (bt372.2.2.2.2 != bt378.2.2.2.2) = true then (laws_FnAimd.j0 k l1 t369 t370 bt372.2.2.2.2 true t365 t366 t367 t368 bt372.1 bt372.2.1 bt372.2.2.1 bt372.2.2.2.1) else (laws_FnAimd.j0 k l1 t369 t370 bt372.2.2.2.2 (!(bt372.1 == bt378.1) || (!(bt372.2.1 == bt378.2.1) || (!(bt372.2.2.1 == bt378.2.2.1) || (!(bt372.2.2.2.1 == bt378.2.2.2.1))))) t365 t366 t367 t368 bt372.1 bt372.2.1 bt372.2.2.1 bt372.2.2.2.1)))) = some r := H
  have A4 := Aside0.mk A40
  clear A40
  replace H := Option.bind_eq_some_iff.mp H
  obtain ⟨⟨t372, t373, t374, t375, t376⟩, A50, H⟩ := H
  replace H : ((spec_AckedBytes.f k t365 t366 t367 t368 t369 t370).bind fun bt378 => (if (t376 != bt378.2.2.2.2) = true then (laws_FnAimd.j0 k l1 t369 t370 t376 true t365 t366 t367 t368 t372 t373 t374 t375) else (laws_FnAimd.j0 k l1 t369 t370 t376 (!(t372 == bt378.1) || (!(t373 == bt378.2.1) || (!(t374 == bt378.2.2.1) || (!(t375 == bt378.2.2.2.1))))) t365 t366 t367 t368 t372 t373 t374 t375))) = some r := H
  have A5 := Aside0.mk A50
  clear A50
  replace H := Option.bind_eq_some_iff.mp H
  obtain ⟨⟨t378, t379, t380, t381, t382⟩, A60, H⟩ := H
  replace H : (if (t376 != t382) = true then (laws_FnAimd.j0 k l1 t369 t370 t376 true t365 t366 t367 t368 t372 t373 t374 t375) else (laws_FnAimd.j0 k l1 t369 t370 t376 (!(t372 == t378) || (!(t373 == t379) || (!(t374 == t380) || (!(t375 == t381))))) t365 t366 t367 t368 t372 t373 t374 t375)) = some r := H
  have A6 := Aside0.mk A60
  clear A60
  have HC7 := Aside0.mk H
  clear H
  go_enter Try.func6, Try.ntmps6
  go_upto_region 6 with (first | ((with_reducible refine gate_callee (f := 27) rfl ?_); refine goesL_ (some 30) rfl rfl Try.func27 (by kernel_rfl) rfl #[.slice A0 l0.length c0] rfl (q_5) ?_; (with_reducible refine (spec_DrawAckedBytes.calls k _ _ l0 t365 t366 t367 t368 t369 t370 _ ?side1 ?side2 A4.out).mono ?_); (case side1 => repeat (first | exact HR0.out | (with_reducible refine Kd.C_alloc ?_ _) | (with_reducible refine Kd.C_drewN ?_ _) | (with_reducible refine Kd.C_drew ?_))); (case side2 => exact HC0.out); rintro e w8 ⟨rfl, hb⟩; refine ⟨_, rfl, ?_⟩; have n0_ := Aside0.mk (below_step (q_3) hb); clear HB; have HB := n0_; clear n0_; (try clear hb); (try clear hb2); (try clear hk); (try clear hi)) | ((with_reducible refine gate_dst (N := 5) rfl ?_); refine box_event ?hg (N := 5) ?hd (cs := #[.int .i64 0, .int .i64 0, .int .i64 0, .int .i64 0]) (t := 37) ?hr ?_; (case hd => rfl); (case hg => rfl); (case hr => first | (go_simp; done) | (go_simp; rfl)); intro gb371 hg w9 hbox hb; have n0_ := Aside0.mk (below_step (q_3) hb); have n1_ := Aside0.mk (hbox); have n2_ := Aside0.mk ((q_4 : w.heap.size ≤ gb371)); have n3_ := Aside0.mk ((q_4 : w.heap.size ≤ gb371)); clear HB; have HB := n0_; have BK371 := n1_; have GW371 := n2_; have GE371 := n3_; clear n0_ n1_ n2_ n3_; clear hb hbox hg; have hcz10_0 : w9.cell? ⟨gb371, 0, none⟩ = some (.int .i64 0) := (blk_cell BK371.out 0).trans rfl; have hcz10_1 : w9.cell? ⟨gb371, 1, none⟩ = some (.int .i64 0) := (blk_cell BK371.out 1).trans rfl; have hcz10_2 : w9.cell? ⟨gb371, 2, none⟩ = some (.int .i64 0) := (blk_cell BK371.out 2).trans rfl; have hcz10_3 : w9.cell? ⟨gb371, 3, none⟩ = some (.int .i64 0) := (blk_cell BK371.out 3).trans rfl; have hfz10_0 := blk_frozen BK371.out 0; have hfz10_1 := blk_frozen BK371.out 1; have hfz10_2 := blk_frozen BK371.out 2; have hfz10_3 := blk_frozen BK371.out 3) | ((with_reducible refine gate_callee (f := 28) rfl ?_); refine goesL_ (some 38) rfl rfl Try.func28 (by kernel_rfl) rfl #[.agg #[.int .i64 t365, .int .i64 t366, .int .i64 t367, .int .i64 t368], .int .i64 t369, .int .i64 t370] rfl (q_5) ?_; (with_reducible refine (impl_AckedBytes.calls k t365 t366 t367 t368 t369 t370 t372 t373 t374 t375 t376 _ A5.out).mono ?_); rintro e w11 ⟨rfl, hb⟩; refine ⟨_, rfl, ?_⟩; have n0_ := Aside0.mk (blk_below (g := gb371) (o := .cells #[.int .i64 t365, .int .i64 t366, .int .i64 t367, .int .i64 t368] 37 (0, 0)) (by (with_reducible repeat (first | refine blk_drewN ?_ _ | refine blk_drew ?_ | refine blk_alloc ?_ _)); refine blk_put (cs := #[.int .i64 t365, .int .i64 t366, .int .i64 t367, .int .i64 0]) ?_ 3 _ rfl; (with_reducible repeat (first | refine blk_drewN ?_ _ | refine blk_drew ?_ | refine blk_alloc ?_ _)); refine blk_put (cs := #[.int .i64 t365, .int .i64 t366, .int .i64 0, .int .i64 0]) ?_ 2 _ rfl; (with_reducible repeat (first | refine blk_drewN ?_ _ | refine blk_drew ?_ | refine blk_alloc ?_ _)); refine blk_put (cs := #[.int .i64 t365, .int .i64 0, .int .i64 0, .int .i64 0]) ?_ 1 _ rfl; (with_reducible repeat (first | refine blk_drewN ?_ _ | refine blk_drew ?_ | refine blk_alloc ?_ _)); refine blk_put (cs := #[.int .i64 0, .int .i64 0, .int .i64 0, .int .i64 0]) ?_ 0 _ rfl; (with_reducible repeat (first | refine blk_drewN ?_ _ | refine blk_drew ?_ | refine blk_alloc ?_ _)); exact BK371.out) hb); have n1_ := Aside0.mk (below_step (q_177) hb); clear BK371; clear HB; have BK371 := n0_; have HB := n1_; clear n0_ n1_; (try clear hb); (try clear hb2); (try clear hk); (try clear hi)) | ((with_reducible refine gate_dst (N := 8) rfl ?_); refine box_event ?hg (N := 8) ?hd (cs := #[.int .i64 0, .int .i64 0, .int .i64 0, .int .i64 0]) (t := 37) ?hr ?_; (case hd => rfl); (case hg => rfl); (case hr => first | (go_simp; done) | (go_simp; rfl)); intro gb377 hg w12 hbox hb; have n0_ := Aside0.mk (blk_below (g := gb371) (o := .cells #[.int .i64 t365, .int .i64 t366, .int .i64 t367, .int .i64 t368] 37 (0, 0)) (q_178) hb); have n1_ := Aside0.mk (below_step (q_177) hb); have n2_ := Aside0.mk (hbox); have n3_ := Aside0.mk ((q_179 : w.heap.size ≤ gb377)); have n4_ := Aside0.mk ((q_179 : w.heap.size ≤ gb377)); have n5_ := Aside0.mk ((q_180 : gb371 ≠ gb377)); have n6_ := Aside0.mk ((q_181 : gb377 ≠ gb371)); clear BK371; clear HB; have BK371 := n0_; have HB := n1_; have BK377 := n2_; have GW377 := n3_; have GE377 := n4_; have NB371_377 := n5_; have NB377_371 := n6_; clear n0_ n1_ n2_ n3_ n4_ n5_ n6_; clear hb hbox hg; have hnb13 := NB377_371.out; have hnc13 := NB371_377.out; have hcz14_0 : w12.cell? ⟨gb377, 0, none⟩ = some (.int .i64 0) := (blk_cell BK377.out 0).trans rfl; have hcz14_1 : w12.cell? ⟨gb377, 1, none⟩ = some (.int .i64 0) := (blk_cell BK377.out 1).trans rfl; have hcz14_2 : w12.cell? ⟨gb377, 2, none⟩ = some (.int .i64 0) := (blk_cell BK377.out 2).trans rfl; have hcz14_3 : w12.cell? ⟨gb377, 3, none⟩ = some (.int .i64 0) := (blk_cell BK377.out 3).trans rfl; have hfz14_0 := blk_frozen BK377.out 0; have hfz14_1 := blk_frozen BK377.out 1; have hfz14_2 := blk_frozen BK377.out 2; have hfz14_3 := blk_frozen BK377.out 3; have hcz15_0 : w12.cell? ⟨gb371, 0, none⟩ = some (.int .i64 t365) := (blk_cell BK371.out 0).trans rfl; have hcz15_1 : w12.cell? ⟨gb371, 1, none⟩ = some (.int .i64 t366) := (blk_cell BK371.out 1).trans rfl; have hcz15_2 : w12.cell? ⟨gb371, 2, none⟩ = some (.int .i64 t367) := (blk_cell BK371.out 2).trans rfl; have hcz15_3 : w12.cell? ⟨gb371, 3, none⟩ = some (.int .i64 t368) := (blk_cell BK371.out 3).trans rfl; have hfz15_0 := blk_frozen BK371.out 0; have hfz15_1 := blk_frozen BK371.out 1; have hfz15_2 := blk_frozen BK371.out 2; have hfz15_3 := blk_frozen BK371.out 3) | ((with_reducible refine gate_callee (f := 29) rfl ?_); refine goesL_ (some 45) rfl rfl Try.func29 (by kernel_rfl) rfl #[.agg #[.int .i64 t365, .int .i64 t366, .int .i64 t367, .int .i64 t368], .int .i64 t369, .int .i64 t370] rfl (q_5) ?_; (with_reducible refine (spec_AckedBytes.calls k t365 t366 t367 t368 t369 t370 t378 t379 t380 t381 t382 _ A6.out).mono ?_); rintro e w16 ⟨rfl, hb⟩; refine ⟨_, rfl, ?_⟩; have n0_ := Aside0.mk (blk_below (g := gb371) (o := .cells #[.int .i64 t365, .int .i64 t366, .int .i64 t367, .int .i64 t368] 37 (0, 0)) (by (with_reducible repeat (first | refine blk_drewN ?_ _ | refine blk_drew ?_ | refine blk_alloc ?_ _)); refine blk_far ?_ NB371_377.out _; (with_reducible repeat (first | refine blk_drewN ?_ _ | refine blk_drew ?_ | refine blk_alloc ?_ _)); refine blk_far ?_ NB371_377.out _; (with_reducible repeat (first | refine blk_drewN ?_ _ | refine blk_drew ?_ | refine blk_alloc ?_ _)); refine blk_far ?_ NB371_377.out _; (with_reducible repeat (first | refine blk_drewN ?_ _ | refine blk_drew ?_ | refine blk_alloc ?_ _)); refine blk_far ?_ NB371_377.out _; (with_reducible repeat (first | refine blk_drewN ?_ _ | refine blk_drew ?_ | refine blk_alloc ?_ _)); exact BK371.out) hb); have n1_ := Aside0.mk (blk_below (g := gb377) (o := .cells #[.int .i64 t372, .int .i64 t373, .int .i64 t374, .int .i64 t375] 37 (0, 0)) (by (with_reducible repeat (first | refine blk_drewN ?_ _ | refine blk_drew ?_ | refine blk_alloc ?_ _)); refine blk_put (cs := #[.int .i64 t372, .int .i64 t373, .int .i64 t374, .int .i64 0]) ?_ 3 _ rfl; (with_reducible repeat (first | refine blk_drewN ?_ _ | refine blk_drew ?_ | refine blk_alloc ?_ _)); refine blk_put (cs := #[.int .i64 t372, .int .i64 t373, .int .i64 0, .int .i64 0]) ?_ 2 _ rfl; (with_reducible repeat (first | refine blk_drewN ?_ _ | refine blk_drew ?_ | refine blk_alloc ?_ _)); refine blk_put (cs := #[.int .i64 t372, .int .i64 0, .int .i64 0, .int .i64 0]) ?_ 1 _ rfl; (with_reducible repeat (first | refine blk_drewN ?_ _ | refine blk_drew ?_ | refine blk_alloc ?_ _)); refine blk_put (cs := #[.int .i64 0, .int .i64 0, .int .i64 0, .int .i64 0]) ?_ 0 _ rfl; (with_reducible repeat (first | refine blk_drewN ?_ _ | refine blk_drew ?_ | refine blk_alloc ?_ _)); exact BK377.out) hb); have n2_ := Aside0.mk (below_step (q_182) hb); clear BK371; clear BK377; clear HB; have BK371 := n0_; have BK377 := n1_; have HB := n2_; clear n0_ n1_ n2_; (try clear hb); (try clear hb2); (try clear hk); (try clear hi)) | ((with_reducible refine gate_dst (N := 10) rfl ?_); refine box_event ?hg (N := 10) ?hd (cs := #[.int .i64 0, .int .i64 0, .int .i64 0, .int .i64 0]) (t := 37) ?hr ?_; (case hd => rfl); (case hg => rfl); (case hr => first | (go_simp; done) | (go_simp; rfl)); intro gb383 hg w17 hbox hb; have n0_ := Aside0.mk (blk_below (g := gb371) (o := .cells #[.int .i64 t365, .int .i64 t366, .int .i64 t367, .int .i64 t368] 37 (0, 0)) (q_178) hb); have n1_ := Aside0.mk (blk_below (g := gb377) (o := .cells #[.int .i64 t372, .int .i64 t373, .int .i64 t374, .int .i64 t375] 37 (0, 0)) (q_183) hb); have n2_ := Aside0.mk (below_step (q_182) hb); have n3_ := Aside0.mk (hbox); have n4_ := Aside0.mk ((q_184 : w.heap.size ≤ gb383)); have n5_ := Aside0.mk ((q_184 : w.heap.size ≤ gb383)); have n6_ := Aside0.mk ((q_180 : gb371 ≠ gb383)); have n7_ := Aside0.mk ((q_181 : gb383 ≠ gb371)); have n8_ := Aside0.mk ((q_185 : gb377 ≠ gb383)); have n9_ := Aside0.mk ((q_186 : gb383 ≠ gb377)); clear BK371; clear BK377; clear HB; have BK371 := n0_; have BK377 := n1_; have HB := n2_; have BK383 := n3_; have GW383 := n4_; have GE383 := n5_; have NB371_383 := n6_; have NB383_371 := n7_; have NB377_383 := n8_; have NB383_377 := n9_; clear n0_ n1_ n2_ n3_ n4_ n5_ n6_ n7_ n8_ n9_; clear hb hbox hg; have hnb18 := NB383_371.out; have hnc18 := NB371_383.out; have hnb19 := NB383_377.out; have hnc19 := NB377_383.out; have hcz20_0 : w17.cell? ⟨gb383, 0, none⟩ = some (.int .i64 0) := (blk_cell BK383.out 0).trans rfl; have hcz20_1 : w17.cell? ⟨gb383, 1, none⟩ = some (.int .i64 0) := (blk_cell BK383.out 1).trans rfl; have hcz20_2 : w17.cell? ⟨gb383, 2, none⟩ = some (.int .i64 0) := (blk_cell BK383.out 2).trans rfl; have hcz20_3 : w17.cell? ⟨gb383, 3, none⟩ = some (.int .i64 0) := (blk_cell BK383.out 3).trans rfl; have hfz20_0 := blk_frozen BK383.out 0; have hfz20_1 := blk_frozen BK383.out 1; have hfz20_2 := blk_frozen BK383.out 2; have hfz20_3 := blk_frozen BK383.out 3))
  (try simp only [Act.put, List.setIfInBounds_toArray, List.set_cons_zero, List.set_cons_succ])
  go_cut [55] (fun v55 wc => ∃ (kq : Nat) (x55_6 : Bool), v55 = .bool x55_6 ∧ Aside0 (laws_FnAimd.j0 kq l1 t369 t370 t376 x55_6 t365 t366 t367 t368 t372 t373 t374 t375 = some r) ∧ Aside0 (kq ≤ k) ∧ Aside0 (wc.heap[gb371]? = some (.cells #[.int .i64 t365, .int .i64 t366, .int .i64 t367, .int .i64 t368] 37 (0, 0))) ∧ Aside0 (wc.heap[gb377]? = some (.cells #[.int .i64 t372, .int .i64 t373, .int .i64 t374, .int .i64 t375] 37 (0, 0))) ∧ Aside0 (wc.heap[gb383]? = some (.cells #[.int .i64 t378, .int .i64 t379, .int .i64 t380, .int .i64 t381] 37 (0, 0))) ∧ Aside0 (Below w.heap.size w wc))
  case first =>
   have H := HC7.out
   clear HC7
   by_cases c21 : (t376 != t382) = true
   ·rw [if_pos c21] at H
    have c21b0 : (t376 != t382) = true := c21
    (try (have c21b1 : decide (t376 = t382) = false := by simpa using c21))
    (try (have c21b2 : (t376 == t382) = false := by simpa using c21))
    (try (have c21b3 : ¬ (t376 = t382) := by simpa using c21))
    clear c21
    (first | rw [c21b0] | (simp only [i64_w, i32_w]; rw [c21b0]) | skip)
    have H' := Aside0.mk H
    clear H
    go_wp2
    go_meet
    case rel => exact ⟨_, (true), (q_1), H', ⟨q_18⟩, ⟨q_187⟩, ⟨q_188⟩, ⟨q_189⟩, ⟨q_190⟩⟩
   ·rw [if_neg c21] at H
    have c21b0 : (t376 != t382) = false := by simpa using c21
    (try (have c21b1 : decide (t376 = t382) = true := by simpa using c21))
    (try (have c21b2 : (t376 == t382) = true := by simpa using c21))
    clear c21
    (first | rw [c21b0] | (simp only [i64_w, i32_w]; rw [c21b0]) | skip)
    have H' := Aside0.mk H
    clear H
    have hnb22 := NB377_371.out
    have hnc22 := NB371_377.out
    have hnb23 := NB377_383.out
    have hnc23 := NB383_377.out
    have hcz24_0 : w17.cell? ⟨gb377, 0, none⟩ = some (.int .i64 t372) := (blk_cell BK377.out 0).trans rfl
    have hcz24_1 : w17.cell? ⟨gb377, 1, none⟩ = some (.int .i64 t373) := (blk_cell BK377.out 1).trans rfl
    have hcz24_2 : w17.cell? ⟨gb377, 2, none⟩ = some (.int .i64 t374) := (blk_cell BK377.out 2).trans rfl
    have hcz24_3 : w17.cell? ⟨gb377, 3, none⟩ = some (.int .i64 t375) := (blk_cell BK377.out 3).trans rfl
    have hfz24_0 := blk_frozen BK377.out 0
    have hfz24_1 := blk_frozen BK377.out 1
    have hfz24_2 := blk_frozen BK377.out 2
    have hfz24_3 := blk_frozen BK377.out 3
    have hnb25 := NB383_371.out
    have hnc25 := NB371_383.out
    have hcz26_0 : w17.cell? ⟨gb383, 0, none⟩ = some (.int .i64 0) := (blk_cell BK383.out 0).trans rfl
    have hcz26_1 : w17.cell? ⟨gb383, 1, none⟩ = some (.int .i64 0) := (blk_cell BK383.out 1).trans rfl
    have hcz26_2 : w17.cell? ⟨gb383, 2, none⟩ = some (.int .i64 0) := (blk_cell BK383.out 2).trans rfl
    have hcz26_3 : w17.cell? ⟨gb383, 3, none⟩ = some (.int .i64 0) := (blk_cell BK383.out 3).trans rfl
    have hfz26_0 := blk_frozen BK383.out 0
    have hfz26_1 := blk_frozen BK383.out 1
    have hfz26_2 := blk_frozen BK383.out 2
    have hfz26_3 := blk_frozen BK383.out 3
    go_wp2
    go_meet
    case rel => exact ⟨_, ((!(t372 == t378) || (!(t373 == t379) || (!(t374 == t380) || (!(t375 == t381)))))), (q_1), H', ⟨q_18⟩, ⟨q_187⟩, ⟨q_188⟩, ⟨q_189⟩, ⟨q_190⟩⟩
  case rest =>
   clear HC7
   try clear c1; try clear c2; try clear p2; try clear c3; try clear c3b0; try clear c6; try clear p6; try clear c13; try clear c18; try clear c19; try clear c21; try clear c21b0; try clear c21b1; try clear c21b2; try clear c22; try clear c23; try clear c25; try clear hcz10_0; try clear hcz10_1; try clear hcz10_2; try clear hcz10_3; try clear hcz14_0; try clear hcz14_1; try clear hcz14_2; try clear hcz14_3; try clear hcz15_0; try clear hcz15_1; try clear hcz15_2; try clear hcz15_3; try clear hcz20_0; try clear hcz20_1; try clear hcz20_2; try clear hcz20_3; try clear hcz24_0; try clear hcz24_1; try clear hcz24_2; try clear hcz24_3; try clear hcz26_0; try clear hcz26_1; try clear hcz26_2; try clear hcz26_3; try clear hfz10_0; try clear hfz10_1; try clear hfz10_2; try clear hfz10_3; try clear hfz14_0; try clear hfz14_1; try clear hfz14_2; try clear hfz14_3; try clear hfz15_0; try clear hfz15_1; try clear hfz15_2; try clear hfz15_3; try clear hfz20_0; try clear hfz20_1; try clear hfz20_2; try clear hfz20_3; try clear hfz24_0; try clear hfz24_1; try clear hfz24_2; try clear hfz24_3; try clear hfz26_0; try clear hfz26_1; try clear hfz26_2; try clear hfz26_3
   obtain ⟨kq, x55_6, rfl, HA, HJ6, BK371, BK377, BK383, HB⟩ := hcut
   cases kq with
   | zero => exact absurd HA.out (by simp [laws_FnAimd.j0])
   | succ kj6 =>
    have H := HA.out
    clear HA
    simp only [laws_FnAimd.j0] at H
    by_cases c27 : x55_6 = true
    ·subst c27
     have H1 : (some false) = some r := by rw [if_pos rfl] at H; exact H
     clear H
     have H := H1
     clear H1
     obtain rfl := Option.some.inj H
     go_wp2
     go_ret
     exact ⟨q_6, q_190⟩
    ·replace c27 := Bool.eq_false_iff.mpr c27
     subst c27
     have H1 : (if t376 = true then (if (wrap64 (t372 - t365)) < 0 then (laws_FnAimd.j1 kj6 l1 t369 t370 (wrap64 (t372 - t365)) true t365 t366 t367 t368 t372 t373 t374 t375) else (if t370 ≤ t367 then (if (wrap64 (t372 - t365)) = 0 then ((impl_GoodWindow.f t372 t373 t374 t375).bind fun t384 => (laws_FnAimd.j1 kj6 l1 t369 t370 (wrap64 (t372 - t365)) (!t384) t365 t366 t367 t368 t372 t373 t374 t375)) else (laws_FnAimd.j1 kj6 l1 t369 t370 (wrap64 (t372 - t365)) true t365 t366 t367 t368 t372 t373 t374 t375)) else ((impl_GoodWindow.f t372 t373 t374 t375).bind fun t385 => (laws_FnAimd.j1 kj6 l1 t369 t370 (wrap64 (t372 - t365)) (!t385) t365 t366 t367 t368 t372 t373 t374 t375)))) else (laws_FnAimd.j4 kj6 l1)) = some r := by rw [if_neg (show ¬ (false = true) by decide)] at H; exact H
     clear H
     have H := H1
     clear H1
     have HC28 := Aside0.mk H
     clear H
     go_upto_if 56 with (fail)
     go_cut [] (fun wc => ∃ (kq : Nat), Aside0 (laws_FnAimd.j4 kq l1 = some r) ∧ Aside0 (kq ≤ kj6) ∧ Aside0 (wc.heap[gb371]? = some (.cells #[.int .i64 t365, .int .i64 t366, .int .i64 t367, .int .i64 t368] 37 (0, 0))) ∧ Aside0 (wc.heap[gb377]? = some (.cells #[.int .i64 t372, .int .i64 t373, .int .i64 t374, .int .i64 t375] 37 (0, 0))) ∧ Aside0 (wc.heap[gb383]? = some (.cells #[.int .i64 t378, .int .i64 t379, .int .i64 t380, .int .i64 t381] 37 (0, 0))) ∧ Aside0 (Below w.heap.size w wc))
     case first =>
      have H := HC28.out
      clear HC28
      by_cases c29 : t376 = true
      ·subst c29
       have H1 : (if (wrap64 (t372 - t365)) < 0 then (laws_FnAimd.j1 kj6 l1 t369 t370 (wrap64 (t372 - t365)) true t365 t366 t367 t368 t372 t373 t374 t375) else (if t370 ≤ t367 then (if (wrap64 (t372 - t365)) = 0 then ((impl_GoodWindow.f t372 t373 t374 t375).bind fun t384 => (laws_FnAimd.j1 kj6 l1 t369 t370 (wrap64 (t372 - t365)) (!t384) t365 t366 t367 t368 t372 t373 t374 t375)) else (laws_FnAimd.j1 kj6 l1 t369 t370 (wrap64 (t372 - t365)) true t365 t366 t367 t368 t372 t373 t374 t375)) else ((impl_GoodWindow.f t372 t373 t374 t375).bind fun t385 => (laws_FnAimd.j1 kj6 l1 t369 t370 (wrap64 (t372 - t365)) (!t385) t365 t366 t367 t368 t372 t373 t374 t375)))) = some r := by rw [if_pos rfl] at H; exact H
       clear H
       have H := H1
       clear H1
       have HC30 := Aside0.mk H
       clear H
       have hnb31 := NB377_371.out
       have hnc31 := NB371_377.out
       have hnb32 := NB377_383.out
       have hnc32 := NB383_377.out
       have hcz33_0 : wc.cell? ⟨gb377, 0, none⟩ = some (.int .i64 t372) := (blk_cell BK377.out 0).trans rfl
       have hcz33_1 : wc.cell? ⟨gb377, 1, none⟩ = some (.int .i64 t373) := (blk_cell BK377.out 1).trans rfl
       have hcz33_2 : wc.cell? ⟨gb377, 2, none⟩ = some (.int .i64 t374) := (blk_cell BK377.out 2).trans rfl
       have hcz33_3 : wc.cell? ⟨gb377, 3, none⟩ = some (.int .i64 t375) := (blk_cell BK377.out 3).trans rfl
       have hfz33_0 := blk_frozen BK377.out 0
       have hfz33_1 := blk_frozen BK377.out 1
       have hfz33_2 := blk_frozen BK377.out 2
       have hfz33_3 := blk_frozen BK377.out 3
       have hnb34 := NB371_383.out
       have hnc34 := NB383_371.out
       have hcz35_0 : wc.cell? ⟨gb371, 0, none⟩ = some (.int .i64 t365) := (blk_cell BK371.out 0).trans rfl
       have hcz35_1 : wc.cell? ⟨gb371, 1, none⟩ = some (.int .i64 t366) := (blk_cell BK371.out 1).trans rfl
       have hcz35_2 : wc.cell? ⟨gb371, 2, none⟩ = some (.int .i64 t367) := (blk_cell BK371.out 2).trans rfl
       have hcz35_3 : wc.cell? ⟨gb371, 3, none⟩ = some (.int .i64 t368) := (blk_cell BK371.out 3).trans rfl
       have hfz35_0 := blk_frozen BK371.out 0
       have hfz35_1 := blk_frozen BK371.out 1
       have hfz35_2 := blk_frozen BK371.out 2
       have hfz35_3 := blk_frozen BK371.out 3
       go_upto_region 10 with (fail)
       go_cut [78] (fun v78 wc => ∃ (kq : Nat) (x78_29 : Bool), v78 = .bool x78_29 ∧ Aside0 (laws_FnAimd.j1 kq l1 t369 t370 (wrap64 (t372 - t365)) x78_29 t365 t366 t367 t368 t372 t373 t374 t375 = some r) ∧ Aside0 (kq ≤ kj6) ∧ Aside0 (wc.heap[gb371]? = some (.cells #[.int .i64 t365, .int .i64 t366, .int .i64 t367, .int .i64 t368] 37 (0, 0))) ∧ Aside0 (wc.heap[gb377]? = some (.cells #[.int .i64 t372, .int .i64 t373, .int .i64 t374, .int .i64 t375] 37 (0, 0))) ∧ Aside0 (wc.heap[gb383]? = some (.cells #[.int .i64 t378, .int .i64 t379, .int .i64 t380, .int .i64 t381] 37 (0, 0))) ∧ Aside0 (Below w.heap.size w wc))
       case first =>
        have H := HC30.out
        clear HC30
        by_cases c36 : (wrap64 (t372 - t365)) < 0
        ·rw [if_pos c36] at H
         have c36b0 : decide ((wrap64 (t372 - t365)) < 0) = true := decide_eq_true c36
         clear c36
         (first | rw [c36b0] | (simp only [i64_w, i32_w]; rw [c36b0]) | skip)
         have H' := Aside0.mk H
         clear H
         go_wp2
         go_meet
         case rel => exact ⟨_, (true), (q_1), H', ⟨q_191⟩, ⟨q_178⟩, ⟨q_183⟩, ⟨q_192⟩, ⟨q_190⟩⟩
        ·rw [if_neg c36] at H
         have c36b0 : decide ((wrap64 (t372 - t365)) < 0) = false := decide_eq_false c36
         clear c36
         (first | rw [c36b0] | (simp only [i64_w, i32_w]; rw [c36b0]) | skip)
         by_cases c37 : t370 ≤ t367
         ·rw [if_pos c37] at H
          have c37b0 : decide (t370 ≤ t367) = true := decide_eq_true c37
          clear c37
          by_cases c38 : (wrap64 (t372 - t365)) = 0
          ·rw [if_pos c38] at H
           have c38b0 : ((wrap64 (t372 - t365)) == 0) = true := beq_iff_eq.mpr c38
           have c38b1 : ((wrap64 (t372 - t365)) != 0) = false := bne_eq_false_iff_eq.mpr c38
           clear c38
           replace H := Option.bind_eq_some_iff.mp H
           obtain ⟨t384, A390, H⟩ := H
           replace H : (laws_FnAimd.j1 kj6 l1 t369 t370 (wrap64 (t372 - t365)) (!t384) t365 t366 t367 t368 t372 t373 t374 t375) = some r := H
           have A39 := Aside0.mk A390
           clear A390
           have H' := Aside0.mk H
           clear H
           have hnb40 := NB371_377.out
           have hnc40 := NB377_371.out
           have hnb41 := NB371_383.out
           have hnc41 := NB383_371.out
           have hcz42_0 : wc.cell? ⟨gb371, 0, none⟩ = some (.int .i64 t365) := (blk_cell BK371.out 0).trans rfl
           have hcz42_1 : wc.cell? ⟨gb371, 1, none⟩ = some (.int .i64 t366) := (blk_cell BK371.out 1).trans rfl
           have hcz42_2 : wc.cell? ⟨gb371, 2, none⟩ = some (.int .i64 t367) := (blk_cell BK371.out 2).trans rfl
           have hcz42_3 : wc.cell? ⟨gb371, 3, none⟩ = some (.int .i64 t368) := (blk_cell BK371.out 3).trans rfl
           have hfz42_0 := blk_frozen BK371.out 0
           have hfz42_1 := blk_frozen BK371.out 1
           have hfz42_2 := blk_frozen BK371.out 2
           have hfz42_3 := blk_frozen BK371.out 3
           have hnb43 := NB377_383.out
           have hnc43 := NB383_377.out
           have hcz44_0 : wc.cell? ⟨gb377, 0, none⟩ = some (.int .i64 t372) := (blk_cell BK377.out 0).trans rfl
           have hcz44_1 : wc.cell? ⟨gb377, 1, none⟩ = some (.int .i64 t373) := (blk_cell BK377.out 1).trans rfl
           have hcz44_2 : wc.cell? ⟨gb377, 2, none⟩ = some (.int .i64 t374) := (blk_cell BK377.out 2).trans rfl
           have hcz44_3 : wc.cell? ⟨gb377, 3, none⟩ = some (.int .i64 t375) := (blk_cell BK377.out 3).trans rfl
           have hfz44_0 := blk_frozen BK377.out 0
           have hfz44_1 := blk_frozen BK377.out 1
           have hfz44_2 := blk_frozen BK377.out 2
           have hfz44_3 := blk_frozen BK377.out 3
           go_wp2_with (first | (go_at_call 21; (with_reducible refine (impl_GoodWindow.calls t372 t373 t374 t375 t384 _ A39.out).mono ?_); rintro e w45 ⟨rfl, hb⟩; have n0_ := Aside0.mk (blk_below (g := gb371) (o := .cells #[.int .i64 t365, .int .i64 t366, .int .i64 t367, .int .i64 t368] 37 (0, 0)) (q_178) hb); have n1_ := Aside0.mk (blk_below (g := gb377) (o := .cells #[.int .i64 t372, .int .i64 t373, .int .i64 t374, .int .i64 t375] 37 (0, 0)) (q_183) hb); have n2_ := Aside0.mk (blk_below (g := gb383) (o := .cells #[.int .i64 t378, .int .i64 t379, .int .i64 t380, .int .i64 t381] 37 (0, 0)) (q_192) hb); have n3_ := Aside0.mk (below_step (q_190) hb); clear BK371; clear BK377; clear BK383; clear HB; have BK371 := n0_; have BK377 := n1_; have BK383 := n2_; have HB := n3_; clear n0_ n1_ n2_ n3_; (try clear hb); (try clear hb2); (try clear hk); (try clear hi)))
           go_meet
           case rel => exact ⟨_, (!t384), (q_1), H', ⟨q_191⟩, ⟨q_178⟩, ⟨q_183⟩, ⟨q_192⟩, ⟨q_190⟩⟩
          ·rw [if_neg c38] at H
           have c38b0 : ((wrap64 (t372 - t365)) == 0) = false := beq_eq_false_iff_ne.mpr c38
           have c38b1 : ((wrap64 (t372 - t365)) != 0) = true := bne_iff_ne.mpr c38
           have H' := Aside0.mk H
           clear H
           have hnb46 := NB371_377.out
           have hnc46 := NB377_371.out
           have hnb47 := NB371_383.out
           have hnc47 := NB383_371.out
           have hcz48_0 : wc.cell? ⟨gb371, 0, none⟩ = some (.int .i64 t365) := (blk_cell BK371.out 0).trans rfl
           have hcz48_1 : wc.cell? ⟨gb371, 1, none⟩ = some (.int .i64 t366) := (blk_cell BK371.out 1).trans rfl
           have hcz48_2 : wc.cell? ⟨gb371, 2, none⟩ = some (.int .i64 t367) := (blk_cell BK371.out 2).trans rfl
           have hcz48_3 : wc.cell? ⟨gb371, 3, none⟩ = some (.int .i64 t368) := (blk_cell BK371.out 3).trans rfl
           have hfz48_0 := blk_frozen BK371.out 0
           have hfz48_1 := blk_frozen BK371.out 1
           have hfz48_2 := blk_frozen BK371.out 2
           have hfz48_3 := blk_frozen BK371.out 3
           go_wp2
           go_meet
           case rel => exact ⟨_, (true), (q_1), H', ⟨q_191⟩, ⟨q_178⟩, ⟨q_183⟩, ⟨q_192⟩, ⟨q_190⟩⟩
         ·rw [if_neg c37] at H
          have c37b0 : decide (t370 ≤ t367) = false := decide_eq_false c37
          clear c37
          replace H := Option.bind_eq_some_iff.mp H
          obtain ⟨t385, A490, H⟩ := H
          replace H : (laws_FnAimd.j1 kj6 l1 t369 t370 (wrap64 (t372 - t365)) (!t385) t365 t366 t367 t368 t372 t373 t374 t375) = some r := H
          have A49 := Aside0.mk A490
          clear A490
          have H' := Aside0.mk H
          clear H
          have hnb50 := NB371_377.out
          have hnc50 := NB377_371.out
          have hnb51 := NB371_383.out
          have hnc51 := NB383_371.out
          have hcz52_0 : wc.cell? ⟨gb371, 0, none⟩ = some (.int .i64 t365) := (blk_cell BK371.out 0).trans rfl
          have hcz52_1 : wc.cell? ⟨gb371, 1, none⟩ = some (.int .i64 t366) := (blk_cell BK371.out 1).trans rfl
          have hcz52_2 : wc.cell? ⟨gb371, 2, none⟩ = some (.int .i64 t367) := (blk_cell BK371.out 2).trans rfl
          have hcz52_3 : wc.cell? ⟨gb371, 3, none⟩ = some (.int .i64 t368) := (blk_cell BK371.out 3).trans rfl
          have hfz52_0 := blk_frozen BK371.out 0
          have hfz52_1 := blk_frozen BK371.out 1
          have hfz52_2 := blk_frozen BK371.out 2
          have hfz52_3 := blk_frozen BK371.out 3
          have hnb53 := NB377_383.out
          have hnc53 := NB383_377.out
          have hcz54_0 : wc.cell? ⟨gb377, 0, none⟩ = some (.int .i64 t372) := (blk_cell BK377.out 0).trans rfl
          have hcz54_1 : wc.cell? ⟨gb377, 1, none⟩ = some (.int .i64 t373) := (blk_cell BK377.out 1).trans rfl
          have hcz54_2 : wc.cell? ⟨gb377, 2, none⟩ = some (.int .i64 t374) := (blk_cell BK377.out 2).trans rfl
          have hcz54_3 : wc.cell? ⟨gb377, 3, none⟩ = some (.int .i64 t375) := (blk_cell BK377.out 3).trans rfl
          have hfz54_0 := blk_frozen BK377.out 0
          have hfz54_1 := blk_frozen BK377.out 1
          have hfz54_2 := blk_frozen BK377.out 2
          have hfz54_3 := blk_frozen BK377.out 3
          go_wp2_with (first | (go_at_call 21; (with_reducible refine (impl_GoodWindow.calls t372 t373 t374 t375 t385 _ A49.out).mono ?_); rintro e w55 ⟨rfl, hb⟩; have n0_ := Aside0.mk (blk_below (g := gb371) (o := .cells #[.int .i64 t365, .int .i64 t366, .int .i64 t367, .int .i64 t368] 37 (0, 0)) (q_178) hb); have n1_ := Aside0.mk (blk_below (g := gb377) (o := .cells #[.int .i64 t372, .int .i64 t373, .int .i64 t374, .int .i64 t375] 37 (0, 0)) (q_183) hb); have n2_ := Aside0.mk (blk_below (g := gb383) (o := .cells #[.int .i64 t378, .int .i64 t379, .int .i64 t380, .int .i64 t381] 37 (0, 0)) (q_192) hb); have n3_ := Aside0.mk (below_step (q_190) hb); clear BK371; clear BK377; clear BK383; clear HB; have BK371 := n0_; have BK377 := n1_; have BK383 := n2_; have HB := n3_; clear n0_ n1_ n2_ n3_; (try clear hb); (try clear hb2); (try clear hk); (try clear hi)))
          go_meet
          case rel => exact ⟨_, (!t385), (q_1), H', ⟨q_191⟩, ⟨q_178⟩, ⟨q_183⟩, ⟨q_192⟩, ⟨q_190⟩⟩
       case rest =>
        clear HC30
        try clear c1; try clear c2; try clear p2; try clear c3; try clear c3b0; try clear c4; try clear c5; try clear c6; try clear p6; try clear c13; try clear c18; try clear c19; try clear c21; try clear c21b0; try clear c21b1; try clear c21b2; try clear c22; try clear c23; try clear c25; try clear c27; try clear c28; try clear c29; try clear c31; try clear c32; try clear c34; try clear c36; try clear c36b0; try clear c37; try clear c37b0; try clear c38; try clear c38b0; try clear c38b1; try clear c40; try clear c41; try clear c43; try clear c46; try clear c47; try clear c50; try clear c51; try clear c53; try clear hcz10_0; try clear hcz10_1; try clear hcz10_2; try clear hcz10_3; try clear hcz14_0; try clear hcz14_1; try clear hcz14_2; try clear hcz14_3; try clear hcz15_0; try clear hcz15_1; try clear hcz15_2; try clear hcz15_3; try clear hcz20_0; try clear hcz20_1; try clear hcz20_2; try clear hcz20_3; try clear hcz24_0; try clear hcz24_1; try clear hcz24_2; try clear hcz24_3; try clear hcz26_0; try clear hcz26_1; try clear hcz26_2; try clear hcz26_3; try clear hcz33_0; try clear hcz33_1; try clear hcz33_2; try clear hcz33_3; try clear hcz35_0; try clear hcz35_1; try clear hcz35_2; try clear hcz35_3; try clear hcz42_0; try clear hcz42_1; try clear hcz42_2; try clear hcz42_3; try clear hcz44_0; try clear hcz44_1; try clear hcz44_2; try clear hcz44_3; try clear hcz48_0; try clear hcz48_1; try clear hcz48_2; try clear hcz48_3; try clear hcz52_0; try clear hcz52_1; try clear hcz52_2; try clear hcz52_3; try clear hcz54_0; try clear hcz54_1; try clear hcz54_2; try clear hcz54_3; try clear hfz10_0; try clear hfz10_1; try clear hfz10_2; try clear hfz10_3; try clear hfz14_0; try clear hfz14_1; try clear hfz14_2; try clear hfz14_3; try clear hfz15_0; try clear hfz15_1; try clear hfz15_2; try clear hfz15_3; try clear hfz20_0; try clear hfz20_1; try clear hfz20_2; try clear hfz20_3; try clear hfz24_0; try clear hfz24_1; try clear hfz24_2; try clear hfz24_3; try clear hfz26_0; try clear hfz26_1; try clear hfz26_2; try clear hfz26_3; try clear hfz33_0; try clear hfz33_1; try clear hfz33_2; try clear hfz33_3; try clear hfz35_0; try clear hfz35_1; try clear hfz35_2; try clear hfz35_3; try clear hfz42_0; try clear hfz42_1; try clear hfz42_2; try clear hfz42_3; try clear hfz44_0; try clear hfz44_1; try clear hfz44_2; try clear hfz44_3; try clear hfz48_0; try clear hfz48_1; try clear hfz48_2; try clear hfz48_3; try clear hfz52_0; try clear hfz52_1; try clear hfz52_2; try clear hfz52_3; try clear hfz54_0; try clear hfz54_1; try clear hfz54_2; try clear hfz54_3; try clear p2; try clear p6
        obtain ⟨kq, x78_29, rfl, HA, HJ29, BK371, BK377, BK383, HB⟩ := hcut
        cases kq with
        | zero => exact absurd HA.out (by simp [laws_FnAimd.j1])
        | succ kj29 =>
         have H := HA.out
         clear HA
         simp only [laws_FnAimd.j1] at H
         by_cases c56 : x78_29 = true
         ·subst c56
          have H1 : (some false) = some r := by rw [if_pos rfl] at H; exact H
          clear H
          have H := H1
          clear H1
          obtain rfl := Option.some.inj H
          go_wp2
          go_ret
          exact ⟨q_6, q_190⟩
         ·replace c56 := Bool.eq_false_iff.mpr c56
          subst c56
          have H1 : (if t370 > t367 then (if t365 < t366 then (if (wrap64 (t372 - t365)) = t369 then (laws_FnAimd.j2 kj29 l1 t369 t370 (wrap64 (t372 - t365)) false t365 t366 t367 t368) else (laws_FnAimd.j2 kj29 l1 t369 t370 (wrap64 (t372 - t365)) (t372 != 100000000) t365 t366 t367 t368)) else (laws_FnAimd.j2 kj29 l1 t369 t370 (wrap64 (t372 - t365)) false t365 t366 t367 t368)) else (laws_FnAimd.j2 kj29 l1 t369 t370 (wrap64 (t372 - t365)) false t365 t366 t367 t368)) = some r := by rw [if_neg (show ¬ (false = true) by decide)] at H; exact H
          clear H
          have H := H1
          clear H1
          have HC57 := Aside0.mk H
          clear H
          go_upto_region 12 with (fail)
          go_cut [99] (fun v99 wc => ∃ (kq : Nat) (x99_56 : Bool), v99 = .bool x99_56 ∧ Aside0 (laws_FnAimd.j2 kq l1 t369 t370 (wrap64 (t372 - t365)) x99_56 t365 t366 t367 t368 = some r) ∧ Aside0 (kq ≤ kj29) ∧ Aside0 (wc.heap[gb371]? = some (.cells #[.int .i64 t365, .int .i64 t366, .int .i64 t367, .int .i64 t368] 37 (0, 0))) ∧ Aside0 (wc.heap[gb377]? = some (.cells #[.int .i64 t372, .int .i64 t373, .int .i64 t374, .int .i64 t375] 37 (0, 0))) ∧ Aside0 (wc.heap[gb383]? = some (.cells #[.int .i64 t378, .int .i64 t379, .int .i64 t380, .int .i64 t381] 37 (0, 0))) ∧ Aside0 (Below w.heap.size w wc))
          case first =>
           have H := HC57.out
           clear HC57
           by_cases c58 : t370 > t367
           ·rw [if_pos c58] at H
            have c58b0 : decide (t367 < t370) = true := decide_eq_true c58
            clear c58
            (first | rw [c58b0] | (simp only [i64_w, i32_w]; rw [c58b0]) | skip)
            by_cases c59 : t365 < t366
            ·rw [if_pos c59] at H
             have c59b0 : decide (t365 < t366) = true := decide_eq_true c59
             clear c59
             by_cases c60 : (wrap64 (t372 - t365)) = t369
             ·rw [if_pos c60] at H
              have c60b0 : ((wrap64 (t372 - t365)) == t369) = true := beq_iff_eq.mpr c60
              have c60b1 : ((wrap64 (t372 - t365)) != t369) = false := bne_eq_false_iff_eq.mpr c60
              clear c60
              have H' := Aside0.mk H
              clear H
              have hnb61 := NB371_377.out
              have hnc61 := NB377_371.out
              have hnb62 := NB371_383.out
              have hnc62 := NB383_371.out
              have hcz63_0 : wc.cell? ⟨gb371, 0, none⟩ = some (.int .i64 t365) := (blk_cell BK371.out 0).trans rfl
              have hcz63_1 : wc.cell? ⟨gb371, 1, none⟩ = some (.int .i64 t366) := (blk_cell BK371.out 1).trans rfl
              have hcz63_2 : wc.cell? ⟨gb371, 2, none⟩ = some (.int .i64 t367) := (blk_cell BK371.out 2).trans rfl
              have hcz63_3 : wc.cell? ⟨gb371, 3, none⟩ = some (.int .i64 t368) := (blk_cell BK371.out 3).trans rfl
              have hfz63_0 := blk_frozen BK371.out 0
              have hfz63_1 := blk_frozen BK371.out 1
              have hfz63_2 := blk_frozen BK371.out 2
              have hfz63_3 := blk_frozen BK371.out 3
              go_wp2
              go_meet
              case rel => exact ⟨_, (false), (q_1), H', ⟨q_193⟩, ⟨q_178⟩, ⟨q_183⟩, ⟨q_192⟩, ⟨q_190⟩⟩
             ·rw [if_neg c60] at H
              have c60b0 : ((wrap64 (t372 - t365)) == t369) = false := beq_eq_false_iff_ne.mpr c60
              have c60b1 : ((wrap64 (t372 - t365)) != t369) = true := bne_iff_ne.mpr c60
              have H' := Aside0.mk H
              clear H
              have hnb64 := NB371_377.out
              have hnc64 := NB377_371.out
              have hnb65 := NB371_383.out
              have hnc65 := NB383_371.out
              have hcz66_0 : wc.cell? ⟨gb371, 0, none⟩ = some (.int .i64 t365) := (blk_cell BK371.out 0).trans rfl
              have hcz66_1 : wc.cell? ⟨gb371, 1, none⟩ = some (.int .i64 t366) := (blk_cell BK371.out 1).trans rfl
              have hcz66_2 : wc.cell? ⟨gb371, 2, none⟩ = some (.int .i64 t367) := (blk_cell BK371.out 2).trans rfl
              have hcz66_3 : wc.cell? ⟨gb371, 3, none⟩ = some (.int .i64 t368) := (blk_cell BK371.out 3).trans rfl
              have hfz66_0 := blk_frozen BK371.out 0
              have hfz66_1 := blk_frozen BK371.out 1
              have hfz66_2 := blk_frozen BK371.out 2
              have hfz66_3 := blk_frozen BK371.out 3
              have hnb67 := NB377_383.out
              have hnc67 := NB383_377.out
              have hcz68_0 : wc.cell? ⟨gb377, 0, none⟩ = some (.int .i64 t372) := (blk_cell BK377.out 0).trans rfl
              have hcz68_1 : wc.cell? ⟨gb377, 1, none⟩ = some (.int .i64 t373) := (blk_cell BK377.out 1).trans rfl
              have hcz68_2 : wc.cell? ⟨gb377, 2, none⟩ = some (.int .i64 t374) := (blk_cell BK377.out 2).trans rfl
              have hcz68_3 : wc.cell? ⟨gb377, 3, none⟩ = some (.int .i64 t375) := (blk_cell BK377.out 3).trans rfl
              have hfz68_0 := blk_frozen BK377.out 0
              have hfz68_1 := blk_frozen BK377.out 1
              have hfz68_2 := blk_frozen BK377.out 2
              have hfz68_3 := blk_frozen BK377.out 3
              go_wp2
              go_meet
              case rel => exact ⟨_, ((t372 != 100000000)), (q_1), H', ⟨q_193⟩, ⟨q_178⟩, ⟨q_183⟩, ⟨q_192⟩, ⟨q_190⟩⟩
            ·rw [if_neg c59] at H
             have c59b0 : decide (t365 < t366) = false := decide_eq_false c59
             clear c59
             have H' := Aside0.mk H
             clear H
             have hnb69 := NB371_377.out
             have hnc69 := NB377_371.out
             have hnb70 := NB371_383.out
             have hnc70 := NB383_371.out
             have hcz71_0 : wc.cell? ⟨gb371, 0, none⟩ = some (.int .i64 t365) := (blk_cell BK371.out 0).trans rfl
             have hcz71_1 : wc.cell? ⟨gb371, 1, none⟩ = some (.int .i64 t366) := (blk_cell BK371.out 1).trans rfl
             have hcz71_2 : wc.cell? ⟨gb371, 2, none⟩ = some (.int .i64 t367) := (blk_cell BK371.out 2).trans rfl
             have hcz71_3 : wc.cell? ⟨gb371, 3, none⟩ = some (.int .i64 t368) := (blk_cell BK371.out 3).trans rfl
             have hfz71_0 := blk_frozen BK371.out 0
             have hfz71_1 := blk_frozen BK371.out 1
             have hfz71_2 := blk_frozen BK371.out 2
             have hfz71_3 := blk_frozen BK371.out 3
             go_wp2
             go_meet
             case rel => exact ⟨_, (false), (q_1), H', ⟨q_193⟩, ⟨q_178⟩, ⟨q_183⟩, ⟨q_192⟩, ⟨q_190⟩⟩
           ·rw [if_neg c58] at H
            have c58b0 : decide (t367 < t370) = false := decide_eq_false c58
            clear c58
            (first | rw [c58b0] | (simp only [i64_w, i32_w]; rw [c58b0]) | skip)
            have H' := Aside0.mk H
            clear H
            have hnb72 := NB371_377.out
            have hnc72 := NB377_371.out
            have hnb73 := NB371_383.out
            have hnc73 := NB383_371.out
            have hcz74_0 : wc.cell? ⟨gb371, 0, none⟩ = some (.int .i64 t365) := (blk_cell BK371.out 0).trans rfl
            have hcz74_1 : wc.cell? ⟨gb371, 1, none⟩ = some (.int .i64 t366) := (blk_cell BK371.out 1).trans rfl
            have hcz74_2 : wc.cell? ⟨gb371, 2, none⟩ = some (.int .i64 t367) := (blk_cell BK371.out 2).trans rfl
            have hcz74_3 : wc.cell? ⟨gb371, 3, none⟩ = some (.int .i64 t368) := (blk_cell BK371.out 3).trans rfl
            have hfz74_0 := blk_frozen BK371.out 0
            have hfz74_1 := blk_frozen BK371.out 1
            have hfz74_2 := blk_frozen BK371.out 2
            have hfz74_3 := blk_frozen BK371.out 3
            go_wp2
            go_meet
            case rel => exact ⟨_, (false), (q_1), H', ⟨q_193⟩, ⟨q_178⟩, ⟨q_183⟩, ⟨q_192⟩, ⟨q_190⟩⟩
          case rest =>
           clear HC57
           try clear c1; try clear c2; try clear p2; try clear c3; try clear c3b0; try clear c4; try clear c5; try clear c6; try clear p6; try clear c7; try clear c13; try clear c18; try clear c19; try clear c21; try clear c21b0; try clear c21b1; try clear c21b2; try clear c22; try clear c23; try clear c25; try clear c27; try clear c28; try clear c29; try clear c31; try clear c32; try clear c34; try clear c36; try clear c36b0; try clear c37; try clear c37b0; try clear c38; try clear c38b0; try clear c38b1; try clear c40; try clear c41; try clear c43; try clear c46; try clear c47; try clear c50; try clear c51; try clear c53; try clear c56; try clear c58; try clear c58b0; try clear c59; try clear c59b0; try clear c60; try clear c60b0; try clear c60b1; try clear c61; try clear c62; try clear c64; try clear p64; try clear c65; try clear c67; try clear c69; try clear c70; try clear c72; try clear c73; try clear hcz10_0; try clear hcz10_1; try clear hcz10_2; try clear hcz10_3; try clear hcz14_0; try clear hcz14_1; try clear hcz14_2; try clear hcz14_3; try clear hcz15_0; try clear hcz15_1; try clear hcz15_2; try clear hcz15_3; try clear hcz20_0; try clear hcz20_1; try clear hcz20_2; try clear hcz20_3; try clear hcz24_0; try clear hcz24_1; try clear hcz24_2; try clear hcz24_3; try clear hcz26_0; try clear hcz26_1; try clear hcz26_2; try clear hcz26_3; try clear hcz33_0; try clear hcz33_1; try clear hcz33_2; try clear hcz33_3; try clear hcz35_0; try clear hcz35_1; try clear hcz35_2; try clear hcz35_3; try clear hcz42_0; try clear hcz42_1; try clear hcz42_2; try clear hcz42_3; try clear hcz44_0; try clear hcz44_1; try clear hcz44_2; try clear hcz44_3; try clear hcz48_0; try clear hcz48_1; try clear hcz48_2; try clear hcz48_3; try clear hcz52_0; try clear hcz52_1; try clear hcz52_2; try clear hcz52_3; try clear hcz54_0; try clear hcz54_1; try clear hcz54_2; try clear hcz54_3; try clear hcz63_0; try clear hcz63_1; try clear hcz63_2; try clear hcz63_3; try clear hcz66_0; try clear hcz66_1; try clear hcz66_2; try clear hcz66_3; try clear hcz68_0; try clear hcz68_1; try clear hcz68_2; try clear hcz68_3; try clear hcz71_0; try clear hcz71_1; try clear hcz71_2; try clear hcz71_3; try clear hcz74_0; try clear hcz74_1; try clear hcz74_2; try clear hcz74_3; try clear hfz10_0; try clear hfz10_1; try clear hfz10_2; try clear hfz10_3; try clear hfz14_0; try clear hfz14_1; try clear hfz14_2; try clear hfz14_3; try clear hfz15_0; try clear hfz15_1; try clear hfz15_2; try clear hfz15_3; try clear hfz20_0; try clear hfz20_1; try clear hfz20_2; try clear hfz20_3; try clear hfz24_0; try clear hfz24_1; try clear hfz24_2; try clear hfz24_3; try clear hfz26_0; try clear hfz26_1; try clear hfz26_2; try clear hfz26_3; try clear hfz33_0; try clear hfz33_1; try clear hfz33_2; try clear hfz33_3; try clear hfz35_0; try clear hfz35_1; try clear hfz35_2; try clear hfz35_3; try clear hfz42_0; try clear hfz42_1; try clear hfz42_2; try clear hfz42_3; try clear hfz44_0; try clear hfz44_1; try clear hfz44_2; try clear hfz44_3; try clear hfz48_0; try clear hfz48_1; try clear hfz48_2; try clear hfz48_3; try clear hfz52_0; try clear hfz52_1; try clear hfz52_2; try clear hfz52_3; try clear hfz54_0; try clear hfz54_1; try clear hfz54_2; try clear hfz54_3; try clear hfz63_0; try clear hfz63_1; try clear hfz63_2; try clear hfz63_3; try clear hfz66_0; try clear hfz66_1; try clear hfz66_2; try clear hfz66_3; try clear hfz68_0; try clear hfz68_1; try clear hfz68_2; try clear hfz68_3; try clear hfz71_0; try clear hfz71_1; try clear hfz71_2; try clear hfz71_3; try clear hfz74_0; try clear hfz74_1; try clear hfz74_2; try clear hfz74_3; try clear p2; try clear p6
           obtain ⟨kq, x99_56, rfl, HA, HJ56, BK371, BK377, BK383, HB⟩ := hcut
           cases kq with
           | zero => exact absurd HA.out (by simp [laws_FnAimd.j2])
           | succ kj56 =>
            have H := HA.out
            clear HA
            simp only [laws_FnAimd.j2] at H
            by_cases c75 : x99_56 = true
            ·subst c75
             have H1 : (some false) = some r := by rw [if_pos rfl] at H; exact H
             clear H
             have H := H1
             clear H1
             obtain rfl := Option.some.inj H
             go_wp2
             go_ret
             exact ⟨q_6, q_190⟩
            ·replace c75 := Bool.eq_false_iff.mpr c75
             subst c75
             have H1 : (if t370 > t367 then (if t365 ≥ t366 then (laws_FnAimd.j3 kj56 l1 (decide ((wrap64 ((wrap64 (t372 - t365)) * t365)) > (wrap64 (1200 * t369))))) else (laws_FnAimd.j3 kj56 l1 false)) else (laws_FnAimd.j3 kj56 l1 false)) = some r := by rw [if_neg (show ¬ (false = true) by decide)] at H; exact H
             clear H
             have H := H1
             clear H1
             have HC76 := Aside0.mk H
             clear H
             go_upto_region 14 with (fail)
             go_cut [119] (fun v119 wc => ∃ (kq : Nat) (x119_75 : Bool), v119 = .bool x119_75 ∧ Aside0 (laws_FnAimd.j3 kq l1 x119_75 = some r) ∧ Aside0 (kq ≤ kj56) ∧ Aside0 (wc.heap[gb371]? = some (.cells #[.int .i64 t365, .int .i64 t366, .int .i64 t367, .int .i64 t368] 37 (0, 0))) ∧ Aside0 (wc.heap[gb377]? = some (.cells #[.int .i64 t372, .int .i64 t373, .int .i64 t374, .int .i64 t375] 37 (0, 0))) ∧ Aside0 (wc.heap[gb383]? = some (.cells #[.int .i64 t378, .int .i64 t379, .int .i64 t380, .int .i64 t381] 37 (0, 0))) ∧ Aside0 (Below w.heap.size w wc))
             case first =>
              have H := HC76.out
              clear HC76
              by_cases c77 : t370 > t367
              ·rw [if_pos c77] at H
               have c77b0 : decide (t367 < t370) = true := decide_eq_true c77
               clear c77
               (first | rw [c77b0] | (simp only [i64_w, i32_w]; rw [c77b0]) | skip)
               by_cases c78 : t365 ≥ t366
               ·rw [if_pos c78] at H
                have c78b0 : decide (t366 ≤ t365) = true := decide_eq_true c78
                clear c78
                have H' := Aside0.mk H
                clear H
                have hnb79 := NB371_377.out
                have hnc79 := NB377_371.out
                have hnb80 := NB371_383.out
                have hnc80 := NB383_371.out
                have hcz81_0 : wc.cell? ⟨gb371, 0, none⟩ = some (.int .i64 t365) := (blk_cell BK371.out 0).trans rfl
                have hcz81_1 : wc.cell? ⟨gb371, 1, none⟩ = some (.int .i64 t366) := (blk_cell BK371.out 1).trans rfl
                have hcz81_2 : wc.cell? ⟨gb371, 2, none⟩ = some (.int .i64 t367) := (blk_cell BK371.out 2).trans rfl
                have hcz81_3 : wc.cell? ⟨gb371, 3, none⟩ = some (.int .i64 t368) := (blk_cell BK371.out 3).trans rfl
                have hfz81_0 := blk_frozen BK371.out 0
                have hfz81_1 := blk_frozen BK371.out 1
                have hfz81_2 := blk_frozen BK371.out 2
                have hfz81_3 := blk_frozen BK371.out 3
                go_wp2
                go_meet
                case rel => exact ⟨_, (decide ((wrap64 ((wrap64 (t372 - t365)) * t365)) > (wrap64 (1200 * t369)))), (q_1), H', ⟨q_194⟩, ⟨q_178⟩, ⟨q_183⟩, ⟨q_192⟩, ⟨q_190⟩⟩
               ·rw [if_neg c78] at H
                have c78b0 : decide (t366 ≤ t365) = false := decide_eq_false c78
                clear c78
                have H' := Aside0.mk H
                clear H
                have hnb82 := NB371_377.out
                have hnc82 := NB377_371.out
                have hnb83 := NB371_383.out
                have hnc83 := NB383_371.out
                have hcz84_0 : wc.cell? ⟨gb371, 0, none⟩ = some (.int .i64 t365) := (blk_cell BK371.out 0).trans rfl
                have hcz84_1 : wc.cell? ⟨gb371, 1, none⟩ = some (.int .i64 t366) := (blk_cell BK371.out 1).trans rfl
                have hcz84_2 : wc.cell? ⟨gb371, 2, none⟩ = some (.int .i64 t367) := (blk_cell BK371.out 2).trans rfl
                have hcz84_3 : wc.cell? ⟨gb371, 3, none⟩ = some (.int .i64 t368) := (blk_cell BK371.out 3).trans rfl
                have hfz84_0 := blk_frozen BK371.out 0
                have hfz84_1 := blk_frozen BK371.out 1
                have hfz84_2 := blk_frozen BK371.out 2
                have hfz84_3 := blk_frozen BK371.out 3
                go_wp2
                go_meet
                case rel => exact ⟨_, (false), (q_1), H', ⟨q_194⟩, ⟨q_178⟩, ⟨q_183⟩, ⟨q_192⟩, ⟨q_190⟩⟩
              ·rw [if_neg c77] at H
               have c77b0 : decide (t367 < t370) = false := decide_eq_false c77
               clear c77
               (first | rw [c77b0] | (simp only [i64_w, i32_w]; rw [c77b0]) | skip)
               have H' := Aside0.mk H
               clear H
               have hnb85 := NB371_377.out
               have hnc85 := NB377_371.out
               have hnb86 := NB371_383.out
               have hnc86 := NB383_371.out
               have hcz87_0 : wc.cell? ⟨gb371, 0, none⟩ = some (.int .i64 t365) := (blk_cell BK371.out 0).trans rfl
               have hcz87_1 : wc.cell? ⟨gb371, 1, none⟩ = some (.int .i64 t366) := (blk_cell BK371.out 1).trans rfl
               have hcz87_2 : wc.cell? ⟨gb371, 2, none⟩ = some (.int .i64 t367) := (blk_cell BK371.out 2).trans rfl
               have hcz87_3 : wc.cell? ⟨gb371, 3, none⟩ = some (.int .i64 t368) := (blk_cell BK371.out 3).trans rfl
               have hfz87_0 := blk_frozen BK371.out 0
               have hfz87_1 := blk_frozen BK371.out 1
               have hfz87_2 := blk_frozen BK371.out 2
               have hfz87_3 := blk_frozen BK371.out 3
               go_wp2
               go_meet
               case rel => exact ⟨_, (false), (q_1), H', ⟨q_194⟩, ⟨q_178⟩, ⟨q_183⟩, ⟨q_192⟩, ⟨q_190⟩⟩
             case rest =>
              clear HC76
              try clear c1; try clear c2; try clear p2; try clear c3; try clear c3b0; try clear c4; try clear c5; try clear c6; try clear p6; try clear c7; try clear c8; try clear c13; try clear c18; try clear c19; try clear c21; try clear c21b0; try clear c21b1; try clear c21b2; try clear c22; try clear c23; try clear c25; try clear c27; try clear c28; try clear c29; try clear c31; try clear c32; try clear c34; try clear c36; try clear c36b0; try clear c37; try clear c37b0; try clear c38; try clear c38b0; try clear c38b1; try clear c40; try clear c41; try clear c43; try clear c46; try clear c47; try clear c50; try clear c51; try clear c53; try clear c56; try clear c58; try clear c58b0; try clear c59; try clear c59b0; try clear c60; try clear c60b0; try clear c60b1; try clear c61; try clear c62; try clear c64; try clear p64; try clear c65; try clear c67; try clear c69; try clear c70; try clear c72; try clear c73; try clear c75; try clear c77; try clear c77b0; try clear c78; try clear c78b0; try clear c79; try clear c80; try clear c82; try clear c83; try clear c85; try clear c86; try clear hcz10_0; try clear hcz10_1; try clear hcz10_2; try clear hcz10_3; try clear hcz14_0; try clear hcz14_1; try clear hcz14_2; try clear hcz14_3; try clear hcz15_0; try clear hcz15_1; try clear hcz15_2; try clear hcz15_3; try clear hcz20_0; try clear hcz20_1; try clear hcz20_2; try clear hcz20_3; try clear hcz24_0; try clear hcz24_1; try clear hcz24_2; try clear hcz24_3; try clear hcz26_0; try clear hcz26_1; try clear hcz26_2; try clear hcz26_3; try clear hcz33_0; try clear hcz33_1; try clear hcz33_2; try clear hcz33_3; try clear hcz35_0; try clear hcz35_1; try clear hcz35_2; try clear hcz35_3; try clear hcz42_0; try clear hcz42_1; try clear hcz42_2; try clear hcz42_3; try clear hcz44_0; try clear hcz44_1; try clear hcz44_2; try clear hcz44_3; try clear hcz48_0; try clear hcz48_1; try clear hcz48_2; try clear hcz48_3; try clear hcz52_0; try clear hcz52_1; try clear hcz52_2; try clear hcz52_3; try clear hcz54_0; try clear hcz54_1; try clear hcz54_2; try clear hcz54_3; try clear hcz63_0; try clear hcz63_1; try clear hcz63_2; try clear hcz63_3; try clear hcz66_0; try clear hcz66_1; try clear hcz66_2; try clear hcz66_3; try clear hcz68_0; try clear hcz68_1; try clear hcz68_2; try clear hcz68_3; try clear hcz71_0; try clear hcz71_1; try clear hcz71_2; try clear hcz71_3; try clear hcz74_0; try clear hcz74_1; try clear hcz74_2; try clear hcz74_3; try clear hcz81_0; try clear hcz81_1; try clear hcz81_2; try clear hcz81_3; try clear hcz84_0; try clear hcz84_1; try clear hcz84_2; try clear hcz84_3; try clear hcz87_0; try clear hcz87_1; try clear hcz87_2; try clear hcz87_3; try clear hfz10_0; try clear hfz10_1; try clear hfz10_2; try clear hfz10_3; try clear hfz14_0; try clear hfz14_1; try clear hfz14_2; try clear hfz14_3; try clear hfz15_0; try clear hfz15_1; try clear hfz15_2; try clear hfz15_3; try clear hfz20_0; try clear hfz20_1; try clear hfz20_2; try clear hfz20_3; try clear hfz24_0; try clear hfz24_1; try clear hfz24_2; try clear hfz24_3; try clear hfz26_0; try clear hfz26_1; try clear hfz26_2; try clear hfz26_3; try clear hfz33_0; try clear hfz33_1; try clear hfz33_2; try clear hfz33_3; try clear hfz35_0; try clear hfz35_1; try clear hfz35_2; try clear hfz35_3; try clear hfz42_0; try clear hfz42_1; try clear hfz42_2; try clear hfz42_3; try clear hfz44_0; try clear hfz44_1; try clear hfz44_2; try clear hfz44_3; try clear hfz48_0; try clear hfz48_1; try clear hfz48_2; try clear hfz48_3; try clear hfz52_0; try clear hfz52_1; try clear hfz52_2; try clear hfz52_3; try clear hfz54_0; try clear hfz54_1; try clear hfz54_2; try clear hfz54_3; try clear hfz63_0; try clear hfz63_1; try clear hfz63_2; try clear hfz63_3; try clear hfz66_0; try clear hfz66_1; try clear hfz66_2; try clear hfz66_3; try clear hfz68_0; try clear hfz68_1; try clear hfz68_2; try clear hfz68_3; try clear hfz71_0; try clear hfz71_1; try clear hfz71_2; try clear hfz71_3; try clear hfz74_0; try clear hfz74_1; try clear hfz74_2; try clear hfz74_3; try clear hfz81_0; try clear hfz81_1; try clear hfz81_2; try clear hfz81_3; try clear hfz84_0; try clear hfz84_1; try clear hfz84_2; try clear hfz84_3; try clear hfz87_0; try clear hfz87_1; try clear hfz87_2; try clear hfz87_3; try clear p2; try clear p6; try clear p64
              obtain ⟨kq, x119_75, rfl, HA, HJ75, BK371, BK377, BK383, HB⟩ := hcut
              cases kq with
              | zero => exact absurd HA.out (by simp [laws_FnAimd.j3])
              | succ kj75 =>
               have H := HA.out
               clear HA
               simp only [laws_FnAimd.j3] at H
               by_cases c88 : x119_75 = true
               ·subst c88
                have H1 : (some false) = some r := by rw [if_pos rfl] at H; exact H
                clear H
                have H := H1
                clear H1
                obtain rfl := Option.some.inj H
                go_wp2
                go_ret
                exact ⟨q_6, q_190⟩
               ·replace c88 := Bool.eq_false_iff.mpr c88
                subst c88
                have H1 : (laws_FnAimd.j4 kj75 l1) = some r := by rw [if_neg (show ¬ (false = true) by decide)] at H; exact H
                clear H
                have H := H1
                clear H1
                have H' := Aside0.mk H
                clear H
                go_wp2
                go_meet
                case rel => exact ⟨_, H', ⟨by have := HJ6.out; have := HJ29.out; have := HJ56.out; have := HJ75.out; first | omega | exact Nat.le_refl _⟩, ⟨q_178⟩, ⟨q_183⟩, ⟨q_192⟩, ⟨q_190⟩⟩
      ·replace c29 := Bool.eq_false_iff.mpr c29
       subst c29
       have H1 : (laws_FnAimd.j4 kj6 l1) = some r := by rw [if_neg (show ¬ (false = true) by decide)] at H; exact H
       clear H
       have H := H1
       clear H1
       have H' := Aside0.mk H
       clear H
       go_wp2
       go_meet
       case rel => exact ⟨_, H', ⟨q_191⟩, ⟨q_178⟩, ⟨q_183⟩, ⟨q_192⟩, ⟨q_190⟩⟩
     case rest =>
      clear HC28
      try clear c1; try clear c2; try clear p2; try clear c3; try clear c3b0; try clear c4; try clear c5; try clear c6; try clear p6; try clear c7; try clear c8; try clear c13; try clear c18; try clear c19; try clear c21; try clear c21b0; try clear c21b1; try clear c21b2; try clear c22; try clear c23; try clear c25; try clear c27; try clear c28; try clear c29; try clear c31; try clear c32; try clear c34; try clear c36; try clear c36b0; try clear c37; try clear c37b0; try clear c38; try clear c38b0; try clear c38b1; try clear c40; try clear c41; try clear c43; try clear c46; try clear c47; try clear c50; try clear c51; try clear c53; try clear c56; try clear c58; try clear c58b0; try clear c59; try clear c59b0; try clear c60; try clear c60b0; try clear c60b1; try clear c61; try clear c62; try clear c64; try clear p64; try clear c65; try clear c67; try clear c69; try clear c70; try clear c72; try clear c73; try clear c75; try clear c77; try clear c77b0; try clear c78; try clear c78b0; try clear c79; try clear c80; try clear c82; try clear c83; try clear c85; try clear c86; try clear c88; try clear hcz10_0; try clear hcz10_1; try clear hcz10_2; try clear hcz10_3; try clear hcz14_0; try clear hcz14_1; try clear hcz14_2; try clear hcz14_3; try clear hcz15_0; try clear hcz15_1; try clear hcz15_2; try clear hcz15_3; try clear hcz20_0; try clear hcz20_1; try clear hcz20_2; try clear hcz20_3; try clear hcz24_0; try clear hcz24_1; try clear hcz24_2; try clear hcz24_3; try clear hcz26_0; try clear hcz26_1; try clear hcz26_2; try clear hcz26_3; try clear hcz33_0; try clear hcz33_1; try clear hcz33_2; try clear hcz33_3; try clear hcz35_0; try clear hcz35_1; try clear hcz35_2; try clear hcz35_3; try clear hcz42_0; try clear hcz42_1; try clear hcz42_2; try clear hcz42_3; try clear hcz44_0; try clear hcz44_1; try clear hcz44_2; try clear hcz44_3; try clear hcz48_0; try clear hcz48_1; try clear hcz48_2; try clear hcz48_3; try clear hcz52_0; try clear hcz52_1; try clear hcz52_2; try clear hcz52_3; try clear hcz54_0; try clear hcz54_1; try clear hcz54_2; try clear hcz54_3; try clear hcz63_0; try clear hcz63_1; try clear hcz63_2; try clear hcz63_3; try clear hcz66_0; try clear hcz66_1; try clear hcz66_2; try clear hcz66_3; try clear hcz68_0; try clear hcz68_1; try clear hcz68_2; try clear hcz68_3; try clear hcz71_0; try clear hcz71_1; try clear hcz71_2; try clear hcz71_3; try clear hcz74_0; try clear hcz74_1; try clear hcz74_2; try clear hcz74_3; try clear hcz81_0; try clear hcz81_1; try clear hcz81_2; try clear hcz81_3; try clear hcz84_0; try clear hcz84_1; try clear hcz84_2; try clear hcz84_3; try clear hcz87_0; try clear hcz87_1; try clear hcz87_2; try clear hcz87_3; try clear hfz10_0; try clear hfz10_1; try clear hfz10_2; try clear hfz10_3; try clear hfz14_0; try clear hfz14_1; try clear hfz14_2; try clear hfz14_3; try clear hfz15_0; try clear hfz15_1; try clear hfz15_2; try clear hfz15_3; try clear hfz20_0; try clear hfz20_1; try clear hfz20_2; try clear hfz20_3; try clear hfz24_0; try clear hfz24_1; try clear hfz24_2; try clear hfz24_3; try clear hfz26_0; try clear hfz26_1; try clear hfz26_2; try clear hfz26_3; try clear hfz33_0; try clear hfz33_1; try clear hfz33_2; try clear hfz33_3; try clear hfz35_0; try clear hfz35_1; try clear hfz35_2; try clear hfz35_3; try clear hfz42_0; try clear hfz42_1; try clear hfz42_2; try clear hfz42_3; try clear hfz44_0; try clear hfz44_1; try clear hfz44_2; try clear hfz44_3; try clear hfz48_0; try clear hfz48_1; try clear hfz48_2; try clear hfz48_3; try clear hfz52_0; try clear hfz52_1; try clear hfz52_2; try clear hfz52_3; try clear hfz54_0; try clear hfz54_1; try clear hfz54_2; try clear hfz54_3; try clear hfz63_0; try clear hfz63_1; try clear hfz63_2; try clear hfz63_3; try clear hfz66_0; try clear hfz66_1; try clear hfz66_2; try clear hfz66_3; try clear hfz68_0; try clear hfz68_1; try clear hfz68_2; try clear hfz68_3; try clear hfz71_0; try clear hfz71_1; try clear hfz71_2; try clear hfz71_3; try clear hfz74_0; try clear hfz74_1; try clear hfz74_2; try clear hfz74_3; try clear hfz81_0; try clear hfz81_1; try clear hfz81_2; try clear hfz81_3; try clear hfz84_0; try clear hfz84_1; try clear hfz84_2; try clear hfz84_3; try clear hfz87_0; try clear hfz87_1; try clear hfz87_2; try clear hfz87_3; try clear p2; try clear p6; try clear p64
      obtain ⟨kq, HA, HJ27, BK371, BK377, BK383, HB⟩ := hcut
      cases kq with
      | zero => exact absurd HA.out (by simp [laws_FnAimd.j4])
      | succ kj27 =>
       have H := HA.out
       clear HA
       simp only [laws_FnAimd.j4] at H
       replace H := Option.bind_eq_some_iff.mp H
       obtain ⟨t386, A890, H⟩ := H
       replace H : ((impl_PlayWindow.f kj27 t386).bind fun bt389 => ((spec_PlayWindow.f kj27 t386).bind fun bt398 => (if (bt389.2.2.2.2.2 != bt398.2.2.2.2.2) = true then (laws_FnAimd.j5 kj27 bt389.2.2.2.2.1 bt389.2.2.2.2.2 true bt389.1 bt389.2.1 bt389.2.2.1 bt389.2.2.2.1) else ((laws_sameInts.f kj27 bt389.2.2.2.2.1 bt398.2.2.2.2.1).bind fun t407 => (laws_FnAimd.j5 kj27 bt389.2.2.2.2.1 bt389.2.2.2.2.2 (!t407) bt389.1 bt389.2.1 bt389.2.2.1 bt389.2.2.2.1))))) = some r := H
       have A89 := Aside0.mk A890
       clear A890
       replace H := Option.bind_eq_some_iff.mp H
       obtain ⟨⟨t389, t390, t391, t392, t393, t396⟩, A900, H⟩ := H
       replace H : ((spec_PlayWindow.f kj27 t386).bind fun bt398 => (if (t396 != bt398.2.2.2.2.2) = true then (laws_FnAimd.j5 kj27 t393 t396 true t389 t390 t391 t392) else ((laws_sameInts.f kj27 t393 bt398.2.2.2.2.1).bind fun t407 => (laws_FnAimd.j5 kj27 t393 t396 (!t407) t389 t390 t391 t392)))) = some r := H
       have A90 := Aside0.mk A900
       clear A900
       replace H := Option.bind_eq_some_iff.mp H
       obtain ⟨⟨t398, t399, t400, t401, t402, t405⟩, A910, H⟩ := H
       replace H : (if (t396 != t405) = true then (laws_FnAimd.j5 kj27 t393 t396 true t389 t390 t391 t392) else ((laws_sameInts.f kj27 t393 t402).bind fun t407 => (laws_FnAimd.j5 kj27 t393 t396 (!t407) t389 t390 t391 t392))) = some r := H
       have A91 := Aside0.mk A910
       clear A910
       have HC92 := Aside0.mk H
       clear H
       go_upto_region 19 with (first | ((with_reducible refine gate_callee (f := 30) rfl ?_); refine goesL_ (some 121) rfl rfl Try.func30 (by kernel_rfl) rfl #[.slice A1 l1.length c1] rfl (q_5) ?_; (with_reducible refine (spec_DrawPlayWindow.calls kj27 _ _ l1 t386 _ ?side1 ?side2 A89.out).mono ?_); (case side1 => repeat (first | exact (Kd.C_below HR1.out HB.out) | (with_reducible refine Kd.C_alloc ?_ _) | (with_reducible refine Kd.C_drewN ?_ _) | (with_reducible refine Kd.C_drew ?_))); (case side2 => exact HC1.out); rintro e w93 ⟨v387, rfl, ho0, hb⟩; refine ⟨_, rfl, ?_⟩; have n0_ := Aside0.mk (Kd.R_lower ho0 (below_size (q_190))); have n1_ := Aside0.mk (blk_below (g := gb371) (o := .cells #[.int .i64 t365, .int .i64 t366, .int .i64 t367, .int .i64 t368] 37 (0, 0)) (q_178) hb); have n2_ := Aside0.mk (blk_below (g := gb377) (o := .cells #[.int .i64 t372, .int .i64 t373, .int .i64 t374, .int .i64 t375] 37 (0, 0)) (q_183) hb); have n3_ := Aside0.mk (blk_below (g := gb383) (o := .cells #[.int .i64 t378, .int .i64 t379, .int .i64 t380, .int .i64 t381] 37 (0, 0)) (q_192) hb); have n4_ := Aside0.mk (below_step (q_190) hb); clear BK371; clear BK377; clear BK383; clear HB; have HO388 := n0_; have BK371 := n1_; have BK377 := n2_; have BK383 := n3_; have HB := n4_; clear n0_ n1_ n2_ n3_ n4_; (try clear hb); (try clear hb2); (try clear hk); (try clear hi); (try clear ho0); obtain ⟨Ao94, co94, eo94⟩ := Kd.R_slice HO388.out; subst eo94) | ((with_reducible refine gate_callee (f := 31) rfl ?_); refine goesL_ (some 124) rfl rfl Try.func31 (by kernel_rfl) rfl #[.slice Ao94 t386.length co94] rfl (q_5) ?_; (with_reducible refine (impl_PlayWindow.calls kj27 _ _ t386 t389 t390 t391 t392 t393 t396 _ ?side1 ?side2 A90.out).mono ?_); (case side1 => repeat (first | exact (Kd.R_reads' HO388.out).2.2 | (with_reducible refine Kd.C_alloc ?_ _) | (with_reducible refine Kd.C_drewN ?_ _) | (with_reducible refine Kd.C_drew ?_))); (case side2 => exact (Kd.R_reads' HO388.out).2.1); rintro e w95 ⟨v394, rfl, ho0, hb⟩; refine ⟨_, rfl, ?_⟩; have n0_ := Aside0.mk (Kd.R_below (q_195) hb); have n1_ := Aside0.mk (Kd.R_lower ho0 (below_size (q_190))); have n2_ := Aside0.mk (blk_below (g := gb371) (o := .cells #[.int .i64 t365, .int .i64 t366, .int .i64 t367, .int .i64 t368] 37 (0, 0)) (q_178) hb); have n3_ := Aside0.mk (blk_below (g := gb377) (o := .cells #[.int .i64 t372, .int .i64 t373, .int .i64 t374, .int .i64 t375] 37 (0, 0)) (q_183) hb); have n4_ := Aside0.mk (blk_below (g := gb383) (o := .cells #[.int .i64 t378, .int .i64 t379, .int .i64 t380, .int .i64 t381] 37 (0, 0)) (q_192) hb); have n5_ := Aside0.mk (below_step (q_190) hb); clear HO388; clear BK371; clear BK377; clear BK383; clear HB; have HO388 := n0_; have HO395 := n1_; have BK371 := n2_; have BK377 := n3_; have BK383 := n4_; have HB := n5_; clear n0_ n1_ n2_ n3_ n4_ n5_; (try clear hb); (try clear hb2); (try clear hk); (try clear hi); (try clear ho0)) | ((with_reducible refine gate_dst (N := 14) rfl ?_); refine box_event ?hg (N := 14) ?hd (cs := #[.int .i64 0, .int .i64 0, .int .i64 0, .int .i64 0]) (t := 37) ?hr ?_; (case hd => rfl); (case hg => rfl); (case hr => first | (go_simp; done) | (go_simp; rfl)); intro gb397 hg w96 hbox hb; have n0_ := Aside0.mk (Kd.R_below (q_195) hb); have n1_ := Aside0.mk (Kd.R_below (q_196) hb); have n2_ := Aside0.mk (blk_below (g := gb371) (o := .cells #[.int .i64 t365, .int .i64 t366, .int .i64 t367, .int .i64 t368] 37 (0, 0)) (q_178) hb); have n3_ := Aside0.mk (blk_below (g := gb377) (o := .cells #[.int .i64 t372, .int .i64 t373, .int .i64 t374, .int .i64 t375] 37 (0, 0)) (q_183) hb); have n4_ := Aside0.mk (blk_below (g := gb383) (o := .cells #[.int .i64 t378, .int .i64 t379, .int .i64 t380, .int .i64 t381] 37 (0, 0)) (q_192) hb); have n5_ := Aside0.mk (below_step (q_190) hb); have n6_ := Aside0.mk (hbox); have n7_ := Aside0.mk ((q_197 : w.heap.size ≤ gb397)); have n8_ := Aside0.mk ((q_197 : w.heap.size ≤ gb397)); have n9_ := Aside0.mk ((q_180 : gb371 ≠ gb397)); have n10_ := Aside0.mk ((q_181 : gb397 ≠ gb371)); have n11_ := Aside0.mk ((q_185 : gb377 ≠ gb397)); have n12_ := Aside0.mk ((q_186 : gb397 ≠ gb377)); have n13_ := Aside0.mk ((q_198 : gb383 ≠ gb397)); have n14_ := Aside0.mk ((q_199 : gb397 ≠ gb383)); clear HO388; clear HO395; clear BK371; clear BK377; clear BK383; clear HB; have HO388 := n0_; have HO395 := n1_; have BK371 := n2_; have BK377 := n3_; have BK383 := n4_; have HB := n5_; have BK397 := n6_; have GW397 := n7_; have GE397 := n8_; have NB371_397 := n9_; have NB397_371 := n10_; have NB377_397 := n11_; have NB397_377 := n12_; have NB383_397 := n13_; have NB397_383 := n14_; clear n0_ n1_ n2_ n3_ n4_ n5_ n6_ n7_ n8_ n9_ n10_ n11_ n12_ n13_ n14_; clear hb hbox hg; have hnb97 := NB397_371.out; have hnc97 := NB371_397.out; have hnb98 := NB397_377.out; have hnc98 := NB377_397.out; have hnb99 := NB397_383.out; have hnc99 := NB383_397.out; have hcz100_0 : w96.cell? ⟨gb397, 0, none⟩ = some (.int .i64 0) := (blk_cell BK397.out 0).trans rfl; have hcz100_1 : w96.cell? ⟨gb397, 1, none⟩ = some (.int .i64 0) := (blk_cell BK397.out 1).trans rfl; have hcz100_2 : w96.cell? ⟨gb397, 2, none⟩ = some (.int .i64 0) := (blk_cell BK397.out 2).trans rfl; have hcz100_3 : w96.cell? ⟨gb397, 3, none⟩ = some (.int .i64 0) := (blk_cell BK397.out 3).trans rfl; have hfz100_0 := blk_frozen BK397.out 0; have hfz100_1 := blk_frozen BK397.out 1; have hfz100_2 := blk_frozen BK397.out 2; have hfz100_3 := blk_frozen BK397.out 3) | ((with_reducible refine gate_callee (f := 32) rfl ?_); refine goesL_ (some 130) rfl rfl Try.func32 (by kernel_rfl) rfl #[.slice Ao94 t386.length co94] rfl (q_5) ?_; (with_reducible refine (spec_PlayWindow.calls kj27 _ _ t386 t398 t399 t400 t401 t402 t405 _ ?side1 ?side2 A91.out).mono ?_); (case side1 => refine (Kd.R_reads' (e := 100) (base := w.heap.size) (ok := fun k_ => True) (n := t386.length) (c := co94) ?_).2.2; exact (q_200)); (case side2 => exact (Kd.R_reads' HO388.out).2.1); rintro e w101 ⟨v403, rfl, ho0, hb⟩; refine ⟨_, rfl, ?_⟩; have n0_ := Aside0.mk (Kd.R_below (q_200) hb); have n1_ := Aside0.mk (Kd.R_elder' (q_201) (Kd.R_base ho0) hb); have n2_ := Aside0.mk (Kd.R_lower (Kd.R_new' ho0 (Kd.R_lt (q_201))) (below_size (q_202))); have n3_ := Aside0.mk (blk_below (g := gb371) (o := .cells #[.int .i64 t365, .int .i64 t366, .int .i64 t367, .int .i64 t368] 37 (0, 0)) (by (with_reducible repeat (first | refine blk_drewN ?_ _ | refine blk_drew ?_ | refine blk_alloc ?_ _)); refine blk_far ?_ NB371_397.out _; (with_reducible repeat (first | refine blk_drewN ?_ _ | refine blk_drew ?_ | refine blk_alloc ?_ _)); refine blk_far ?_ NB371_397.out _; (with_reducible repeat (first | refine blk_drewN ?_ _ | refine blk_drew ?_ | refine blk_alloc ?_ _)); refine blk_far ?_ NB371_397.out _; (with_reducible repeat (first | refine blk_drewN ?_ _ | refine blk_drew ?_ | refine blk_alloc ?_ _)); refine blk_far ?_ NB371_397.out _; (with_reducible repeat (first | refine blk_drewN ?_ _ | refine blk_drew ?_ | refine blk_alloc ?_ _)); exact BK371.out) hb); have n4_ := Aside0.mk (blk_below (g := gb377) (o := .cells #[.int .i64 t372, .int .i64 t373, .int .i64 t374, .int .i64 t375] 37 (0, 0)) (by (with_reducible repeat (first | refine blk_drewN ?_ _ | refine blk_drew ?_ | refine blk_alloc ?_ _)); refine blk_far ?_ NB377_397.out _; (with_reducible repeat (first | refine blk_drewN ?_ _ | refine blk_drew ?_ | refine blk_alloc ?_ _)); refine blk_far ?_ NB377_397.out _; (with_reducible repeat (first | refine blk_drewN ?_ _ | refine blk_drew ?_ | refine blk_alloc ?_ _)); refine blk_far ?_ NB377_397.out _; (with_reducible repeat (first | refine blk_drewN ?_ _ | refine blk_drew ?_ | refine blk_alloc ?_ _)); refine blk_far ?_ NB377_397.out _; (with_reducible repeat (first | refine blk_drewN ?_ _ | refine blk_drew ?_ | refine blk_alloc ?_ _)); exact BK377.out) hb); have n5_ := Aside0.mk (blk_below (g := gb383) (o := .cells #[.int .i64 t378, .int .i64 t379, .int .i64 t380, .int .i64 t381] 37 (0, 0)) (by (with_reducible repeat (first | refine blk_drewN ?_ _ | refine blk_drew ?_ | refine blk_alloc ?_ _)); refine blk_far ?_ NB383_397.out _; (with_reducible repeat (first | refine blk_drewN ?_ _ | refine blk_drew ?_ | refine blk_alloc ?_ _)); refine blk_far ?_ NB383_397.out _; (with_reducible repeat (first | refine blk_drewN ?_ _ | refine blk_drew ?_ | refine blk_alloc ?_ _)); refine blk_far ?_ NB383_397.out _; (with_reducible repeat (first | refine blk_drewN ?_ _ | refine blk_drew ?_ | refine blk_alloc ?_ _)); refine blk_far ?_ NB383_397.out _; (with_reducible repeat (first | refine blk_drewN ?_ _ | refine blk_drew ?_ | refine blk_alloc ?_ _)); exact BK383.out) hb); have n6_ := Aside0.mk (blk_below (g := gb397) (o := .cells #[.int .i64 t389, .int .i64 t390, .int .i64 t391, .int .i64 t392] 37 (0, 0)) (by (with_reducible repeat (first | refine blk_drewN ?_ _ | refine blk_drew ?_ | refine blk_alloc ?_ _)); refine blk_put (cs := #[.int .i64 t389, .int .i64 t390, .int .i64 t391, .int .i64 0]) ?_ 3 _ rfl; (with_reducible repeat (first | refine blk_drewN ?_ _ | refine blk_drew ?_ | refine blk_alloc ?_ _)); refine blk_put (cs := #[.int .i64 t389, .int .i64 t390, .int .i64 0, .int .i64 0]) ?_ 2 _ rfl; (with_reducible repeat (first | refine blk_drewN ?_ _ | refine blk_drew ?_ | refine blk_alloc ?_ _)); refine blk_put (cs := #[.int .i64 t389, .int .i64 0, .int .i64 0, .int .i64 0]) ?_ 1 _ rfl; (with_reducible repeat (first | refine blk_drewN ?_ _ | refine blk_drew ?_ | refine blk_alloc ?_ _)); refine blk_put (cs := #[.int .i64 0, .int .i64 0, .int .i64 0, .int .i64 0]) ?_ 0 _ rfl; (with_reducible repeat (first | refine blk_drewN ?_ _ | refine blk_drew ?_ | refine blk_alloc ?_ _)); exact BK397.out) hb); have n7_ := Aside0.mk (below_step (q_202) hb); clear HO388; clear HO395; clear BK371; clear BK377; clear BK383; clear BK397; clear HB; have HO388 := n0_; have HO395 := n1_; have HO404 := n2_; have BK371 := n3_; have BK377 := n4_; have BK383 := n5_; have BK397 := n6_; have HB := n7_; clear n0_ n1_ n2_ n3_ n4_ n5_ n6_ n7_; (try clear hb); (try clear hb2); (try clear hk); (try clear hi); (try clear ho0)) | ((with_reducible refine gate_dst (N := 17) rfl ?_); refine box_event ?hg (N := 17) ?hd (cs := #[.int .i64 0, .int .i64 0, .int .i64 0, .int .i64 0]) (t := 37) ?hr ?_; (case hd => rfl); (case hg => rfl); (case hr => first | (go_simp; done) | (go_simp; rfl)); intro gb406 hg w102 hbox hb; have n0_ := Aside0.mk (Kd.R_below (q_195) hb); have n1_ := Aside0.mk (Kd.R_below (q_196) hb); have n2_ := Aside0.mk (Kd.R_below (by (with_reducible repeat (first | apply Kd.R_alloc | apply Kd.R_drewN | apply Kd.R_drew)); exact HO404.out) hb); have n3_ := Aside0.mk (blk_below (g := gb371) (o := .cells #[.int .i64 t365, .int .i64 t366, .int .i64 t367, .int .i64 t368] 37 (0, 0)) (q_178) hb); have n4_ := Aside0.mk (blk_below (g := gb377) (o := .cells #[.int .i64 t372, .int .i64 t373, .int .i64 t374, .int .i64 t375] 37 (0, 0)) (q_183) hb); have n5_ := Aside0.mk (blk_below (g := gb383) (o := .cells #[.int .i64 t378, .int .i64 t379, .int .i64 t380, .int .i64 t381] 37 (0, 0)) (q_192) hb); have n6_ := Aside0.mk (blk_below (g := gb397) (o := .cells #[.int .i64 t389, .int .i64 t390, .int .i64 t391, .int .i64 t392] 37 (0, 0)) (q_203) hb); have n7_ := Aside0.mk (below_step (q_202) hb); have n8_ := Aside0.mk (hbox); have n9_ := Aside0.mk ((q_204 : w.heap.size ≤ gb406)); have n10_ := Aside0.mk ((q_204 : w.heap.size ≤ gb406)); have n11_ := Aside0.mk ((q_180 : gb371 ≠ gb406)); have n12_ := Aside0.mk ((q_181 : gb406 ≠ gb371)); have n13_ := Aside0.mk ((q_185 : gb377 ≠ gb406)); have n14_ := Aside0.mk ((q_186 : gb406 ≠ gb377)); have n15_ := Aside0.mk ((q_198 : gb383 ≠ gb406)); have n16_ := Aside0.mk ((q_199 : gb406 ≠ gb383)); have n17_ := Aside0.mk ((by rw [hg]; exact Nat.ne_of_lt (blk_lt (g := gb397) (o := .cells #[.int .i64 t389, .int .i64 t390, .int .i64 t391, .int .i64 t392] 37 (0, 0)) (q_203)) : gb397 ≠ gb406)); have n18_ := Aside0.mk ((by rw [hg]; exact Nat.ne_of_gt (blk_lt (g := gb397) (o := .cells #[.int .i64 t389, .int .i64 t390, .int .i64 t391, .int .i64 t392] 37 (0, 0)) (q_203)) : gb406 ≠ gb397)); clear HO388; clear HO395; clear HO404; clear BK371; clear BK377; clear BK383; clear BK397; clear HB; have HO388 := n0_; have HO395 := n1_; have HO404 := n2_; have BK371 := n3_; have BK377 := n4_; have BK383 := n5_; have BK397 := n6_; have HB := n7_; have BK406 := n8_; have GW406 := n9_; have GE406 := n10_; have NB371_406 := n11_; have NB406_371 := n12_; have NB377_406 := n13_; have NB406_377 := n14_; have NB383_406 := n15_; have NB406_383 := n16_; have NB397_406 := n17_; have NB406_397 := n18_; clear n0_ n1_ n2_ n3_ n4_ n5_ n6_ n7_ n8_ n9_ n10_ n11_ n12_ n13_ n14_ n15_ n16_ n17_ n18_; clear hb hbox hg; have hnb103 := NB406_371.out; have hnc103 := NB371_406.out; have hnb104 := NB406_377.out; have hnc104 := NB377_406.out; have hnb105 := NB406_383.out; have hnc105 := NB383_406.out; have hnb106 := NB406_397.out; have hnc106 := NB397_406.out; have hcz107_0 : w102.cell? ⟨gb406, 0, none⟩ = some (.int .i64 0) := (blk_cell BK406.out 0).trans rfl; have hcz107_1 : w102.cell? ⟨gb406, 1, none⟩ = some (.int .i64 0) := (blk_cell BK406.out 1).trans rfl; have hcz107_2 : w102.cell? ⟨gb406, 2, none⟩ = some (.int .i64 0) := (blk_cell BK406.out 2).trans rfl; have hcz107_3 : w102.cell? ⟨gb406, 3, none⟩ = some (.int .i64 0) := (blk_cell BK406.out 3).trans rfl; have hfz107_0 := blk_frozen BK406.out 0; have hfz107_1 := blk_frozen BK406.out 1; have hfz107_2 := blk_frozen BK406.out 2; have hfz107_3 := blk_frozen BK406.out 3))
       (try simp only [Act.put, List.setIfInBounds_toArray, List.set_cons_zero, List.set_cons_succ])
       go_cut [142] (fun v142 wc => ∃ (kq : Nat) (x142_91 : Bool), v142 = .bool x142_91 ∧ Aside0 (laws_FnAimd.j5 kq t393 t396 x142_91 t389 t390 t391 t392 = some r) ∧ Aside0 (kq ≤ kj27) ∧ Aside0 (Kd.R (Kd.int .i64) 3 wc w.heap.size (fun _ => True) v394 t393) ∧ Aside0 (wc.heap[gb371]? = some (.cells #[.int .i64 t365, .int .i64 t366, .int .i64 t367, .int .i64 t368] 37 (0, 0))) ∧ Aside0 (wc.heap[gb377]? = some (.cells #[.int .i64 t372, .int .i64 t373, .int .i64 t374, .int .i64 t375] 37 (0, 0))) ∧ Aside0 (wc.heap[gb383]? = some (.cells #[.int .i64 t378, .int .i64 t379, .int .i64 t380, .int .i64 t381] 37 (0, 0))) ∧ Aside0 (wc.heap[gb397]? = some (.cells #[.int .i64 t389, .int .i64 t390, .int .i64 t391, .int .i64 t392] 37 (0, 0))) ∧ Aside0 (wc.heap[gb406]? = some (.cells #[.int .i64 t398, .int .i64 t399, .int .i64 t400, .int .i64 t401] 37 (0, 0))) ∧ Aside0 (Below w.heap.size w wc))
       case first =>
        have H := HC92.out
        clear HC92
        by_cases c108 : (t396 != t405) = true
        ·rw [if_pos c108] at H
         have c108b0 : (t396 != t405) = true := c108
         (try (have c108b1 : decide (t396 = t405) = false := by simpa using c108))
         (try (have c108b2 : (t396 == t405) = false := by simpa using c108))
         (try (have c108b3 : ¬ (t396 = t405) := by simpa using c108))
         clear c108
         (first | rw [c108b0] | (simp only [i64_w, i32_w]; rw [c108b0]) | skip)
         have H' := Aside0.mk H
         clear H
         go_wp2
         go_meet
         case rel => exact ⟨_, (true), (q_1), H', ⟨by have := HJ6.out; have := HJ27.out; first | omega | exact Nat.le_refl _⟩, ⟨q_205⟩, ⟨q_206⟩, ⟨q_207⟩, ⟨q_208⟩, ⟨q_209⟩, ⟨q_210⟩, ⟨q_211⟩⟩
        ·rw [if_neg c108] at H
         have c108b0 : (t396 != t405) = false := by simpa using c108
         (try (have c108b1 : decide (t396 = t405) = true := by simpa using c108))
         (try (have c108b2 : (t396 == t405) = true := by simpa using c108))
         clear c108
         (first | rw [c108b0] | (simp only [i64_w, i32_w]; rw [c108b0]) | skip)
         replace H := Option.bind_eq_some_iff.mp H
         obtain ⟨t407, A1090, H⟩ := H
         replace H : (laws_FnAimd.j5 kj27 t393 t396 (!t407) t389 t390 t391 t392) = some r := H
         have A109 := Aside0.mk A1090
         clear A1090
         have H' := Aside0.mk H
         clear H
         obtain ⟨Ao110, co110, eo110⟩ := Kd.R_slice HO395.out
         subst eo110
         obtain ⟨Ao111, co111, eo111⟩ := Kd.R_slice HO404.out
         subst eo111
         go_wp2_with (first | (go_at_call 33; (with_reducible refine (laws_sameInts.calls kj27 _ _ t393 _ _ t402 t407 _ ?side1 ?side2 ?side3 ?side4 A109.out).mono ?_); (case side1 => refine (Kd.R_reads' (e := 3) (base := w.heap.size) (ok := fun k_ => (True ∧ some k_ ≠ (.slice Ao111 t402.length co111 : Value).ownBlock)) (n := t393.length) (c := co110) ?_).2.2; exact (by (with_reducible repeat (first | apply Kd.R_alloc | apply Kd.R_drewN | apply Kd.R_drew)); exact (Kd.R_mono (Kd.R_far (p := ⟨gb406, 3, none⟩) (Kd.R_far (p := ⟨gb406, 2, none⟩) (Kd.R_far (p := ⟨gb406, 1, none⟩) (Kd.R_far (p := ⟨gb406, 0, none⟩) (Kd.R_types HO395.out BK406.out (by decide)) (fun _ hk => hk.2) (.int .i64 t398)) (fun _ hk => hk.2) (.int .i64 t399)) (fun _ hk => hk.2) (.int .i64 t400)) (fun _ hk => hk.2) (.int .i64 t401)) (fun _ h_ => h_.1)))); (case side2 => exact (Kd.R_reads' HO395.out).2.1); (case side3 => refine (Kd.R_reads' (e := 3) (base := w.heap.size) (ok := fun k_ => (True ∧ some k_ ≠ (.slice Ao110 t393.length co110 : Value).ownBlock)) (n := t402.length) (c := co111) ?_).2.2; exact (by (with_reducible repeat (first | apply Kd.R_alloc | apply Kd.R_drewN | apply Kd.R_drew)); exact (Kd.R_mono (Kd.R_far (p := ⟨gb406, 3, none⟩) (Kd.R_far (p := ⟨gb406, 2, none⟩) (Kd.R_far (p := ⟨gb406, 1, none⟩) (Kd.R_far (p := ⟨gb406, 0, none⟩) (Kd.R_types HO404.out BK406.out (by decide)) (fun _ hk => hk.2) (.int .i64 t398)) (fun _ hk => hk.2) (.int .i64 t399)) (fun _ hk => hk.2) (.int .i64 t400)) (fun _ hk => hk.2) (.int .i64 t401)) (fun _ h_ => h_.1)))); (case side4 => exact (Kd.R_reads' HO404.out).2.1); rintro e w' ⟨rfl, ⟨nd, rfl⟩⟩))
         go_meet
         case rel => exact ⟨_, (!t407), (q_1), H', ⟨by have := HJ6.out; have := HJ27.out; first | omega | exact Nat.le_refl _⟩, ⟨q_205⟩, ⟨q_206⟩, ⟨q_207⟩, ⟨q_208⟩, ⟨q_209⟩, ⟨q_210⟩, ⟨q_211⟩⟩
       case rest =>
        clear HC92
        try clear c1; try clear c2; try clear p2; try clear c3; try clear c3b0; try clear c4; try clear c5; try clear c6; try clear p6; try clear c7; try clear c8; try clear c9; try clear c10; try clear c13; try clear c18; try clear c19; try clear c21; try clear c21b0; try clear c21b1; try clear c21b2; try clear c22; try clear c23; try clear c25; try clear c27; try clear c28; try clear c29; try clear c30; try clear c31; try clear c32; try clear c34; try clear c36; try clear c36b0; try clear c37; try clear c37b0; try clear c38; try clear c38b0; try clear c38b1; try clear c40; try clear c41; try clear c43; try clear c46; try clear c47; try clear c50; try clear c51; try clear c53; try clear c56; try clear c58; try clear c58b0; try clear c59; try clear c59b0; try clear c60; try clear c60b0; try clear c60b1; try clear c61; try clear c62; try clear c64; try clear p64; try clear c65; try clear c67; try clear c69; try clear c70; try clear c72; try clear c73; try clear c75; try clear c77; try clear c77b0; try clear c78; try clear c78b0; try clear c79; try clear c80; try clear c82; try clear c83; try clear c85; try clear c86; try clear c88; try clear c97; try clear c98; try clear c99; try clear c103; try clear c104; try clear c105; try clear c106; try clear c108; try clear c108b0; try clear c108b1; try clear c108b2; try clear hcz100_0; try clear hcz100_1; try clear hcz100_2; try clear hcz100_3; try clear hcz107_0; try clear hcz107_1; try clear hcz107_2; try clear hcz107_3; try clear hcz10_0; try clear hcz10_1; try clear hcz10_2; try clear hcz10_3; try clear hcz14_0; try clear hcz14_1; try clear hcz14_2; try clear hcz14_3; try clear hcz15_0; try clear hcz15_1; try clear hcz15_2; try clear hcz15_3; try clear hcz20_0; try clear hcz20_1; try clear hcz20_2; try clear hcz20_3; try clear hcz24_0; try clear hcz24_1; try clear hcz24_2; try clear hcz24_3; try clear hcz26_0; try clear hcz26_1; try clear hcz26_2; try clear hcz26_3; try clear hcz33_0; try clear hcz33_1; try clear hcz33_2; try clear hcz33_3; try clear hcz35_0; try clear hcz35_1; try clear hcz35_2; try clear hcz35_3; try clear hcz42_0; try clear hcz42_1; try clear hcz42_2; try clear hcz42_3; try clear hcz44_0; try clear hcz44_1; try clear hcz44_2; try clear hcz44_3; try clear hcz48_0; try clear hcz48_1; try clear hcz48_2; try clear hcz48_3; try clear hcz52_0; try clear hcz52_1; try clear hcz52_2; try clear hcz52_3; try clear hcz54_0; try clear hcz54_1; try clear hcz54_2; try clear hcz54_3; try clear hcz63_0; try clear hcz63_1; try clear hcz63_2; try clear hcz63_3; try clear hcz66_0; try clear hcz66_1; try clear hcz66_2; try clear hcz66_3; try clear hcz68_0; try clear hcz68_1; try clear hcz68_2; try clear hcz68_3; try clear hcz71_0; try clear hcz71_1; try clear hcz71_2; try clear hcz71_3; try clear hcz74_0; try clear hcz74_1; try clear hcz74_2; try clear hcz74_3; try clear hcz81_0; try clear hcz81_1; try clear hcz81_2; try clear hcz81_3; try clear hcz84_0; try clear hcz84_1; try clear hcz84_2; try clear hcz84_3; try clear hcz87_0; try clear hcz87_1; try clear hcz87_2; try clear hcz87_3; try clear hfz100_0; try clear hfz100_1; try clear hfz100_2; try clear hfz100_3; try clear hfz107_0; try clear hfz107_1; try clear hfz107_2; try clear hfz107_3; try clear hfz10_0; try clear hfz10_1; try clear hfz10_2; try clear hfz10_3; try clear hfz14_0; try clear hfz14_1; try clear hfz14_2; try clear hfz14_3; try clear hfz15_0; try clear hfz15_1; try clear hfz15_2; try clear hfz15_3; try clear hfz20_0; try clear hfz20_1; try clear hfz20_2; try clear hfz20_3; try clear hfz24_0; try clear hfz24_1; try clear hfz24_2; try clear hfz24_3; try clear hfz26_0; try clear hfz26_1; try clear hfz26_2; try clear hfz26_3; try clear hfz33_0; try clear hfz33_1; try clear hfz33_2; try clear hfz33_3; try clear hfz35_0; try clear hfz35_1; try clear hfz35_2; try clear hfz35_3; try clear hfz42_0; try clear hfz42_1; try clear hfz42_2; try clear hfz42_3; try clear hfz44_0; try clear hfz44_1; try clear hfz44_2; try clear hfz44_3; try clear hfz48_0; try clear hfz48_1; try clear hfz48_2; try clear hfz48_3; try clear hfz52_0; try clear hfz52_1; try clear hfz52_2; try clear hfz52_3; try clear hfz54_0; try clear hfz54_1; try clear hfz54_2; try clear hfz54_3; try clear hfz63_0; try clear hfz63_1; try clear hfz63_2; try clear hfz63_3; try clear hfz66_0; try clear hfz66_1; try clear hfz66_2; try clear hfz66_3; try clear hfz68_0; try clear hfz68_1; try clear hfz68_2; try clear hfz68_3; try clear hfz71_0; try clear hfz71_1; try clear hfz71_2; try clear hfz71_3; try clear hfz74_0; try clear hfz74_1; try clear hfz74_2; try clear hfz74_3; try clear hfz81_0; try clear hfz81_1; try clear hfz81_2; try clear hfz81_3; try clear hfz84_0; try clear hfz84_1; try clear hfz84_2; try clear hfz84_3; try clear hfz87_0; try clear hfz87_1; try clear hfz87_2; try clear hfz87_3; try clear p2; try clear p6; try clear p64
        obtain ⟨kq, x142_91, rfl, HA, HJ91, HO_15, BK371, BK377, BK383, BK397, BK406, HB⟩ := hcut
        cases kq with
        | zero => exact absurd HA.out (by simp [laws_FnAimd.j5])
        | succ kj91 =>
         have H := HA.out
         clear HA
         simp only [laws_FnAimd.j5] at H
         by_cases c112 : x142_91 = true
         ·subst c112
          have H1 : (some false) = some r := by rw [if_pos rfl] at H; exact H
          clear H
          have H := H1
          clear H1
          obtain rfl := Option.some.inj H
          go_wp2
          go_ret
          exact ⟨q_6, q_211⟩
         ·replace c112 := Bool.eq_false_iff.mpr c112
          subst c112
          have H1 : (laws_FnAimd.l0 kj91 t396 t393 (t393.length : Int) 0 t389 t390 t391 t392) = some r := by rw [if_neg (show ¬ (false = true) by decide)] at H; exact H
          clear H
          have H := H1
          clear H1
          have H' := Aside0.mk H
          clear H
          obtain ⟨Ao113, co113, eo113⟩ := Kd.R_slice HO_15.out
          subst eo113
          go_wp2
          go_loopg [145] kj91 (fun kq v145 w' => ∃ (x145_4 : Int), v145 = .int .i64 x145_4 ∧ Aside0 (laws_FnAimd.l0 kq t396 t393 (t393.length : Int) x145_4 t389 t390 t391 t392 = some r) ∧ Aside0 (kq ≤ kj91) ∧ Aside0 (Kd.R (Kd.int .i64) 3 w' w.heap.size (fun _ => True) (.slice Ao113 t393.length co113) t393) ∧ Aside0 (w'.heap[gb371]? = some (.cells #[.int .i64 t365, .int .i64 t366, .int .i64 t367, .int .i64 t368] 37 (0, 0))) ∧ Aside0 (w'.heap[gb377]? = some (.cells #[.int .i64 t372, .int .i64 t373, .int .i64 t374, .int .i64 t375] 37 (0, 0))) ∧ Aside0 (w'.heap[gb383]? = some (.cells #[.int .i64 t378, .int .i64 t379, .int .i64 t380, .int .i64 t381] 37 (0, 0))) ∧ Aside0 (w'.heap[gb397]? = some (.cells #[.int .i64 t389, .int .i64 t390, .int .i64 t391, .int .i64 t392] 37 (0, 0))) ∧ Aside0 (w'.heap[gb406]? = some (.cells #[.int .i64 t398, .int .i64 t399, .int .i64 t400, .int .i64 t401] 37 (0, 0))) ∧ Aside0 (Below w.heap.size w w'))
          case atStart => exact ⟨(0), (q_1), H', ⟨Nat.le_refl _⟩, ⟨by (with_reducible repeat (first | apply Kd.R_alloc | apply Kd.R_drewN | apply Kd.R_drew)); exact HO_15.out⟩, ⟨q_178⟩, ⟨q_183⟩, ⟨q_192⟩, ⟨q_203⟩, ⟨q_212⟩, ⟨q_211⟩⟩
          case round =>
           clear H'
           try clear c1; try clear c2; try clear p2; try clear c3; try clear c3b0; try clear c4; try clear c5; try clear c6; try clear p6; try clear c7; try clear c8; try clear c9; try clear c10; try clear c11; try clear c13; try clear c18; try clear c19; try clear c21; try clear c21b0; try clear c21b1; try clear c21b2; try clear c22; try clear c23; try clear c25; try clear c27; try clear c28; try clear c29; try clear c30; try clear c31; try clear c32; try clear c34; try clear c36; try clear c36b0; try clear c37; try clear c37b0; try clear c38; try clear c38b0; try clear c38b1; try clear c40; try clear c41; try clear c43; try clear c46; try clear c47; try clear c50; try clear c51; try clear c53; try clear c56; try clear c58; try clear c58b0; try clear c59; try clear c59b0; try clear c60; try clear c60b0; try clear c60b1; try clear c61; try clear c62; try clear c64; try clear p64; try clear c65; try clear c67; try clear c69; try clear c70; try clear c72; try clear c73; try clear c75; try clear c77; try clear c77b0; try clear c78; try clear c78b0; try clear c79; try clear c80; try clear c82; try clear c83; try clear c85; try clear c86; try clear c88; try clear c97; try clear c98; try clear c99; try clear c103; try clear c104; try clear c105; try clear c106; try clear c108; try clear c108b0; try clear c108b1; try clear c108b2; try clear c112; try clear hcz100_0; try clear hcz100_1; try clear hcz100_2; try clear hcz100_3; try clear hcz107_0; try clear hcz107_1; try clear hcz107_2; try clear hcz107_3; try clear hcz10_0; try clear hcz10_1; try clear hcz10_2; try clear hcz10_3; try clear hcz14_0; try clear hcz14_1; try clear hcz14_2; try clear hcz14_3; try clear hcz15_0; try clear hcz15_1; try clear hcz15_2; try clear hcz15_3; try clear hcz20_0; try clear hcz20_1; try clear hcz20_2; try clear hcz20_3; try clear hcz24_0; try clear hcz24_1; try clear hcz24_2; try clear hcz24_3; try clear hcz26_0; try clear hcz26_1; try clear hcz26_2; try clear hcz26_3; try clear hcz33_0; try clear hcz33_1; try clear hcz33_2; try clear hcz33_3; try clear hcz35_0; try clear hcz35_1; try clear hcz35_2; try clear hcz35_3; try clear hcz42_0; try clear hcz42_1; try clear hcz42_2; try clear hcz42_3; try clear hcz44_0; try clear hcz44_1; try clear hcz44_2; try clear hcz44_3; try clear hcz48_0; try clear hcz48_1; try clear hcz48_2; try clear hcz48_3; try clear hcz52_0; try clear hcz52_1; try clear hcz52_2; try clear hcz52_3; try clear hcz54_0; try clear hcz54_1; try clear hcz54_2; try clear hcz54_3; try clear hcz63_0; try clear hcz63_1; try clear hcz63_2; try clear hcz63_3; try clear hcz66_0; try clear hcz66_1; try clear hcz66_2; try clear hcz66_3; try clear hcz68_0; try clear hcz68_1; try clear hcz68_2; try clear hcz68_3; try clear hcz71_0; try clear hcz71_1; try clear hcz71_2; try clear hcz71_3; try clear hcz74_0; try clear hcz74_1; try clear hcz74_2; try clear hcz74_3; try clear hcz81_0; try clear hcz81_1; try clear hcz81_2; try clear hcz81_3; try clear hcz84_0; try clear hcz84_1; try clear hcz84_2; try clear hcz84_3; try clear hcz87_0; try clear hcz87_1; try clear hcz87_2; try clear hcz87_3; try clear hfz100_0; try clear hfz100_1; try clear hfz100_2; try clear hfz100_3; try clear hfz107_0; try clear hfz107_1; try clear hfz107_2; try clear hfz107_3; try clear hfz10_0; try clear hfz10_1; try clear hfz10_2; try clear hfz10_3; try clear hfz14_0; try clear hfz14_1; try clear hfz14_2; try clear hfz14_3; try clear hfz15_0; try clear hfz15_1; try clear hfz15_2; try clear hfz15_3; try clear hfz20_0; try clear hfz20_1; try clear hfz20_2; try clear hfz20_3; try clear hfz24_0; try clear hfz24_1; try clear hfz24_2; try clear hfz24_3; try clear hfz26_0; try clear hfz26_1; try clear hfz26_2; try clear hfz26_3; try clear hfz33_0; try clear hfz33_1; try clear hfz33_2; try clear hfz33_3; try clear hfz35_0; try clear hfz35_1; try clear hfz35_2; try clear hfz35_3; try clear hfz42_0; try clear hfz42_1; try clear hfz42_2; try clear hfz42_3; try clear hfz44_0; try clear hfz44_1; try clear hfz44_2; try clear hfz44_3; try clear hfz48_0; try clear hfz48_1; try clear hfz48_2; try clear hfz48_3; try clear hfz52_0; try clear hfz52_1; try clear hfz52_2; try clear hfz52_3; try clear hfz54_0; try clear hfz54_1; try clear hfz54_2; try clear hfz54_3; try clear hfz63_0; try clear hfz63_1; try clear hfz63_2; try clear hfz63_3; try clear hfz66_0; try clear hfz66_1; try clear hfz66_2; try clear hfz66_3; try clear hfz68_0; try clear hfz68_1; try clear hfz68_2; try clear hfz68_3; try clear hfz71_0; try clear hfz71_1; try clear hfz71_2; try clear hfz71_3; try clear hfz74_0; try clear hfz74_1; try clear hfz74_2; try clear hfz74_3; try clear hfz81_0; try clear hfz81_1; try clear hfz81_2; try clear hfz81_3; try clear hfz84_0; try clear hfz84_1; try clear hfz84_2; try clear hfz84_3; try clear hfz87_0; try clear hfz87_1; try clear hfz87_2; try clear hfz87_3; try clear p2; try clear p6; try clear p64
           obtain ⟨x145_4, rfl, HA, HK4, HO_143, BK371, BK377, BK383, BK397, BK406, HB⟩ := hrel
           cases gk with
           | zero => exact absurd HA.out (by simp [laws_FnAimd.l0])
           | succ k4 =>
            have H := HA.out
            clear HA
            simp only [laws_FnAimd.l0] at H
            by_cases c114 : x145_4 < (t393.length : Int)
            ·rw [if_pos c114] at H
             have c114b0 : decide (x145_4 < (t393.length : Int)) = true := decide_eq_true c114
             clear c114
             by_cases c115 : 0 ≤ x145_4
             ·rw [if_pos c115] at H
              have c115b0 : decide (0 ≤ x145_4) = true := decide_eq_true c115
              clear c115
              by_cases c116 : x145_4 < (t393.length : Int)
              ·rw [if_pos c116] at H
               have c116b0 : decide (x145_4 < (t393.length : Int)) = true := decide_eq_true c116
               clear c116
               by_cases c117 : (rd t393 x145_4) < 2400
               ·rw [if_pos c117] at H
                have c117b0 : decide ((rd t393 x145_4) < 2400) = true := decide_eq_true c117
                clear c117
                obtain rfl := Option.some.inj H
                have p409 : 0 ≤ (x145_4 : Int) := of_decide_eq_true (q_8)
                have q409 : x145_4 < (t393.length : Int) := of_decide_eq_true (q_8)
                obtain ⟨ad409, e409, hx409_0⟩ := Kd.at_int (Kd.R_reads' HO_143.out).2.2 x145_4 p409 q409
                cases e409
                replace p409 := eq_true p409
                replace q409 := eq_true q409
                go_wp2
                go_ret
                exact ⟨q_6, q_211⟩
               ·rw [if_neg c117] at H
                have c117b0 : decide ((rd t393 x145_4) < 2400) = false := decide_eq_false c117
                clear c117
                have H' := Aside0.mk H
                clear H
                have p409 : 0 ≤ (x145_4 : Int) := of_decide_eq_true (q_8)
                have q409 : x145_4 < (t393.length : Int) := of_decide_eq_true (q_8)
                obtain ⟨ad409, e409, hx409_0⟩ := Kd.at_int (Kd.R_reads' HO_143.out).2.2 x145_4 p409 q409
                cases e409
                replace p409 := eq_true p409
                replace q409 := eq_true q409
                go_wp2
                go_roundg k4
                case measure => have := HJ6.out; have := HJ27.out; have := HJ91.out; have := HK4.out; omega
                case rel => exact ⟨(wrap64 (x145_4 + 1)), (q_1), H', ⟨by have := HJ6.out; have := HJ27.out; have := HJ91.out; have := HK4.out; omega⟩, ⟨q_213⟩, ⟨q_178⟩, ⟨q_183⟩, ⟨q_192⟩, ⟨q_203⟩, ⟨q_212⟩, ⟨q_211⟩⟩
              ·rw [if_neg c116] at H
               exact absurd H (by simp)
             ·rw [if_neg c115] at H
              exact absurd H (by simp)
            ·rw [if_neg c114] at H
             have c114b0 : decide (x145_4 < (t393.length : Int)) = false := decide_eq_false c114
             clear c114
             by_cases c118 : t396 = true
             ·subst c118
              have H1 : ((impl_GoodWindow.f t389 t390 t391 t392).bind fun t408 => (some t408)) = some r := by rw [if_pos rfl] at H; exact H
              clear H
              have H := H1
              clear H1
              replace H := Option.bind_eq_some_iff.mp H
              obtain ⟨t408, A1190, H⟩ := H
              replace H : (some t408) = some r := H
              have A119 := Aside0.mk A1190
              clear A1190
              obtain rfl := Option.some.inj H
              have hnb120 := NB397_371.out
              have hnc120 := NB371_397.out
              have hnb121 := NB397_377.out
              have hnc121 := NB377_397.out
              have hnb122 := NB397_383.out
              have hnc122 := NB383_397.out
              have hnb123 := NB397_406.out
              have hnc123 := NB406_397.out
              have hcz124_0 : wr.cell? ⟨gb397, 0, none⟩ = some (.int .i64 t389) := (blk_cell BK397.out 0).trans rfl
              have hcz124_1 : wr.cell? ⟨gb397, 1, none⟩ = some (.int .i64 t390) := (blk_cell BK397.out 1).trans rfl
              have hcz124_2 : wr.cell? ⟨gb397, 2, none⟩ = some (.int .i64 t391) := (blk_cell BK397.out 2).trans rfl
              have hcz124_3 : wr.cell? ⟨gb397, 3, none⟩ = some (.int .i64 t392) := (blk_cell BK397.out 3).trans rfl
              have hfz124_0 := blk_frozen BK397.out 0
              have hfz124_1 := blk_frozen BK397.out 1
              have hfz124_2 := blk_frozen BK397.out 2
              have hfz124_3 := blk_frozen BK397.out 3
              go_wp2_with (first | (go_at_call 21; (with_reducible refine (impl_GoodWindow.calls t389 t390 t391 t392 t408 _ A119.out).mono ?_); rintro e w125 ⟨rfl, hb⟩; have n0_ := Aside0.mk (Kd.R_below (q_213) hb); have n1_ := Aside0.mk (blk_below (g := gb371) (o := .cells #[.int .i64 t365, .int .i64 t366, .int .i64 t367, .int .i64 t368] 37 (0, 0)) (q_178) hb); have n2_ := Aside0.mk (blk_below (g := gb377) (o := .cells #[.int .i64 t372, .int .i64 t373, .int .i64 t374, .int .i64 t375] 37 (0, 0)) (q_183) hb); have n3_ := Aside0.mk (blk_below (g := gb383) (o := .cells #[.int .i64 t378, .int .i64 t379, .int .i64 t380, .int .i64 t381] 37 (0, 0)) (q_192) hb); have n4_ := Aside0.mk (blk_below (g := gb397) (o := .cells #[.int .i64 t389, .int .i64 t390, .int .i64 t391, .int .i64 t392] 37 (0, 0)) (q_203) hb); have n5_ := Aside0.mk (blk_below (g := gb406) (o := .cells #[.int .i64 t398, .int .i64 t399, .int .i64 t400, .int .i64 t401] 37 (0, 0)) (q_212) hb); have n6_ := Aside0.mk (below_step (q_211) hb); clear HO_143; clear BK371; clear BK377; clear BK383; clear BK397; clear BK406; clear HB; have HO_143 := n0_; have BK371 := n1_; have BK377 := n2_; have BK383 := n3_; have BK397 := n4_; have BK406 := n5_; have HB := n6_; clear n0_ n1_ n2_ n3_ n4_ n5_ n6_; (try clear hb); (try clear hb2); (try clear hk); (try clear hi)))
              go_ret
              exact ⟨q_6, q_211⟩
             ·replace c118 := Bool.eq_false_iff.mpr c118
              subst c118
              have H1 : (some true) = some r := by rw [if_neg (show ¬ (false = true) by decide)] at H; exact H
              clear H
              have H := H1
              clear H1
              obtain rfl := Option.some.inj H
              go_wp2
              go_ret
              exact ⟨q_6, q_211⟩

/-- THE ONE PURE STATEMENT of laws_FnAimd: yours. -/
def laws_FnAimd.Pure : Prop := ∀ (l0 : List Int) (l1 : List Int), l0.length ≤ maxLen → l0.length * 1 ≤ 140737488351232 → (∀ x ∈ l0, (Lit.int .u8 x).wf = true) → l1.length ≤ maxLen → l1.length * 1 ≤ 140737488351232 → (∀ x ∈ l1, (Lit.int .u8 x).wf = true) → ∃ k, laws_FnAimd.f k l0 l1 = some true
theorem laws_FnAimd.walk (P : laws_FnAimd.Pure) (a0 : Option Addr) (len0 cap0 : Nat) (z0 : List Int) (a1 : Option Addr) (len1 cap1 : Nat) (z1 : List Int) (w : World) (w0 : (a0 = none ∧ len0 = 0 ∧ cap0 = 0 ∧ z0 = []) ∨ ∃ x, a0 = some x ∧ len0 ≤ cap0 ∧ cap0 ≤ maxLen ∧ z0.length = cap0 ∧ (∀ i, i < z0.length → w.cell? (x.add i) = some (.int .u8 (z0.getD i 0))) ∧ ∀ n ∈ z0, (Lit.int .u8 n).wf = true) (y0 : len0 * 1 ≤ 140737488351232) (w1 : (a1 = none ∧ len1 = 0 ∧ cap1 = 0 ∧ z1 = []) ∨ ∃ x, a1 = some x ∧ len1 ≤ cap1 ∧ cap1 ≤ maxLen ∧ z1.length = cap1 ∧ (∀ i, i < z1.length → w.cell? (x.add i) = some (.int .u8 (z1.getD i 0))) ∧ ∀ n ∈ z1, (Lit.int .u8 n).wf = true) (y1 : len1 * 1 ≤ 140737488351232) :
  Calls Try.prog 6 #[.slice a0 len0 cap0, .slice a1 len1 cap1] w fun e w' => e = .returned (.bool true) ∧ Below w.heap.size w w' := by
 obtain ⟨l0, rfl, hr0, hm0, hw0, hc0⟩ := ReadsInt.ofRowC w0
 obtain ⟨l1, rfl, hr1, hm1, hw1, hc1⟩ := ReadsInt.ofRowC w1
 obtain ⟨k, h⟩ := P l0 l1 hm0 y0 hw0 hm1 y1 hw1
 refine (laws_FnAimd.calls k _ _ l0 _ _ l1 true w (Kd.C_of_reads (d := (0 : Int)) (h1 := fun _ => rfl) hr0) hc0 (Kd.C_of_reads (d := (0 : Int)) (h1 := fun _ => rfl) hr1) hc1 h).mono ?_
 rintro e w' ⟨rfl, hd⟩
 exact ⟨rfl, hd⟩

end Go.Proofs.Ytcngjidojibleaa.PFnAimd
