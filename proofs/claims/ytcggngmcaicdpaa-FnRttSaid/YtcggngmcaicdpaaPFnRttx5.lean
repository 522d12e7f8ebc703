-- Written by a program of this session out of the translation; Lean checks it.
import Derived.Test.YtcggngmcaicdpaaPFnRttx0
import Derived.Test.YtcggngmcaicdpaaPFnRttx1
import Derived.Test.YtcggngmcaicdpaaPFnRttx2
import Derived.Test.YtcggngmcaicdpaaPFnRttx3
import Derived.Test.YtcggngmcaicdpaaPFnRttx4
namespace Go.Proofs.Ytcggngmcaicdpaa.PFnRtt
open Go.RowKit Go.Proofs.YtcggngmcaicdpaaW.PrintWords Go.Proofs.YtcggngmcaicdpaaW.PrintLast Go.Proofs.YtcggngmcaicdpaaW.PrintMore
attribute [local go_sem] max2_int min2_int max_two min_two max_three min_three max_four min_four   -- for this text's walks alone
set_option linter.unusedVariables false
set_option linter.unusedSimpArgs false

attribute [local go_sem high] eqA39
/-! ### laws_FnRtt: function 8 -/
mutual
def laws_FnRtt.j0 : Nat → List Int → Int → Int → Bool → Bool → Bool → Int → Int → Int → Int → Bool → Int → Int → Int → Int → Option (Bool)
  | 0, _, _, _, _, _, _, _, _, _, _, _, _, _, _, _ => none
  | k + 1, x1, x6, x7, x9, x56, x241000, x241001, x241002, x241003, x241004, x248000, x248001, x248002, x248003, x248004 => if x56 = true then (some false) else (if x9 = true then (if (wrap64 (x6 - x7)) ≥ x248002 then (laws_FnRtt.j1 k x1 x6 (wrap64 (x6 - x7)) x6 x241000 x241001 x241002 x241003 x241004 x248000 x248001 x248002 x248003 x248004) else (laws_FnRtt.j1 k x1 x6 x6 x6 x241000 x241001 x241002 x241003 x241004 x248000 x248001 x248002 x248003 x248004)) else (laws_FnRtt.j5 k x1))
def laws_FnRtt.j5 : Nat → List Int → Option (Bool)
  | 0, _ => none
  | k + 1, x1 => (spec_DrawProbeTime.f k x1).bind fun bt255 => ((impl_ProbeTime.f k bt255.1 bt255.2.1 bt255.2.2.1 bt255.2.2.2.1 bt255.2.2.2.2.1 bt255.2.2.2.2.2.1 bt255.2.2.2.2.2.2).bind fun bt263 => ((spec_ProbeTime.f k bt255.1 bt255.2.1 bt255.2.2.1 bt255.2.2.2.1 bt255.2.2.2.2.1 bt255.2.2.2.2.2.1 bt255.2.2.2.2.2.2).bind fun bt265 => (if (bt263.2 != bt265.2) = true then (some false) else (if bt263.1 = bt265.1 then ((impl_ProbeTime.f k bt255.1 bt255.2.1 bt255.2.2.1 bt255.2.2.2.1 bt255.2.2.2.2.1 bt255.2.2.2.2.2.1 (wrap64 (bt255.2.2.2.2.2.2 + 1))).bind fun bt267 => (if bt267.2 = true then (if bt263.2 = true then (if bt267.1 = (wrap64 (2 * bt263.1)) then (some true) else (some false)) else (some (decide (bt255.2.2.2.2.2.2 < 0)))) else (some true))) else (some false)))))
def laws_FnRtt.j1 : Nat → List Int → Int → Int → Int → Bool → Int → Int → Int → Int → Bool → Int → Int → Int → Int → Option (Bool)
  | 0, _, _, _, _, _, _, _, _, _, _, _, _, _, _ => none
  | k + 1, x1, x6, x12, x13, x241000, x241001, x241002, x241003, x241004, x248000, x248001, x248002, x248003, x248004 => if x241000 = true then (laws_FnRtt.j2 k x1 x6 x12 x13 (decide (x241003 < x12)) x241000 x241001 x241002 x241003 x241004 x248000 x248001 x248002 x248003 x248004) else (laws_FnRtt.j2 k x1 x6 x12 x13 false x241000 x241001 x241002 x241003 x241004 x248000 x248001 x248002 x248003 x248004)
def laws_FnRtt.j2 : Nat → List Int → Int → Int → Int → Bool → Bool → Int → Int → Int → Int → Bool → Int → Int → Int → Int → Option (Bool)
  | 0, _, _, _, _, _, _, _, _, _, _, _, _, _, _, _ => none
  | k + 1, x1, x6, x12, x13, x76, x241000, x241001, x241002, x241003, x241004, x248000, x248001, x248002, x248003, x248004 => if x76 = true then (laws_FnRtt.j3 k x1 x6 x241003 x13 x241000 x241001 x241002 x241003 x241004 x248000 x248001 x248002 x248003 x248004) else (laws_FnRtt.j3 k x1 x6 x12 x13 x241000 x241001 x241002 x241003 x241004 x248000 x248001 x248002 x248003 x248004)
def laws_FnRtt.j3 : Nat → List Int → Int → Int → Int → Bool → Int → Int → Int → Int → Bool → Int → Int → Int → Int → Option (Bool)
  | 0, _, _, _, _, _, _, _, _, _, _, _, _, _, _ => none
  | k + 1, x1, x6, x12, x13, x241000, x241001, x241002, x241003, x241004, x248000, x248001, x248002, x248003, x248004 => if x241000 = true then (laws_FnRtt.j4 k x1 x6 x12 x13 (decide (x241003 > x13)) x241000 x241001 x241002 x241003 x241004 x248000 x248001 x248002 x248003 x248004) else (laws_FnRtt.j4 k x1 x6 x12 x13 false x241000 x241001 x241002 x241003 x241004 x248000 x248001 x248002 x248003 x248004)
def laws_FnRtt.j4 : Nat → List Int → Int → Int → Int → Bool → Bool → Int → Int → Int → Int → Bool → Int → Int → Int → Int → Option (Bool)
  | 0, _, _, _, _, _, _, _, _, _, _, _, _, _, _, _ => none
  | k + 1, x1, x6, x12, x13, x86, x241000, x241001, x241002, x241003, x241004, x248000, x248001, x248002, x248003, x248004 => if x86 = true then (if x248000 = true then (if x248001 = x6 then (if x248002 > x6 then (some false) else (if x248003 < x12 then (some false) else (if x248003 > x241003 then (some false) else (laws_FnRtt.j5 k x1)))) else (some false)) else (some false)) else (if x248000 = true then (if x248001 = x6 then (if x248002 > x6 then (some false) else (if x248003 < x12 then (some false) else (if x248003 > x13 then (some false) else (laws_FnRtt.j5 k x1)))) else (some false)) else (some false))
end
def laws_FnRtt.f (k : Nat) (l0 : List Int) (l1 : List Int) : Option (Bool) := if (wrap64 ((l0.length : Int) + (l1.length : Int))) > 1048576 then (some true) else ((spec_DrawSampleRtt.f k l0).bind fun bt233 => ((impl_SampleRtt.f bt233.1 bt233.2.1 bt233.2.2.1 bt233.2.2.2.1 bt233.2.2.2.2.1 bt233.2.2.2.2.2.1 bt233.2.2.2.2.2.2).bind fun bt241 => ((spec_SampleRtt.f k bt233.1 bt233.2.1 bt233.2.2.1 bt233.2.2.2.1 bt233.2.2.2.2.1 bt233.2.2.2.2.2.1 bt233.2.2.2.2.2.2).bind fun bt248 => (if (bt241.2.2.2.2.2 != bt248.2.2.2.2.2) = true then (laws_FnRtt.j0 k l1 bt233.2.2.2.2.2.1 bt233.2.2.2.2.2.2 bt241.2.2.2.2.2 true bt233.1 bt233.2.1 bt233.2.2.1 bt233.2.2.2.1 bt233.2.2.2.2.1 bt241.1 bt241.2.1 bt241.2.2.1 bt241.2.2.2.1 bt241.2.2.2.2.1) else (laws_FnRtt.j0 k l1 bt233.2.2.2.2.2.1 bt233.2.2.2.2.2.2 bt241.2.2.2.2.2 (!(bt241.1 == bt248.1) || (!(bt241.2.1 == bt248.2.1) || (!(bt241.2.2.1 == bt248.2.2.1) || (!(bt241.2.2.2.1 == bt248.2.2.2.1) || (!(bt241.2.2.2.2.1 == bt248.2.2.2.2.1)))))) bt233.1 bt233.2.1 bt233.2.2.1 bt233.2.2.2.1 bt233.2.2.2.2.1 bt241.1 bt241.2.1 bt241.2.2.1 bt241.2.2.2.1 bt241.2.2.2.2.1)))))
theorem laws_FnRtt.mono_l : ∀ k, (∀ y0 y1 y2 y3 y4 y5 y6 y7 y8 y9 y10 y11 y12 y13 y14, LeO (laws_FnRtt.j0 k y0 y1 y2 y3 y4 y5 y6 y7 y8 y9 y10 y11 y12 y13 y14) (laws_FnRtt.j0 (k + 1) y0 y1 y2 y3 y4 y5 y6 y7 y8 y9 y10 y11 y12 y13 y14)) ∧ (∀ y0, LeO (laws_FnRtt.j5 k y0) (laws_FnRtt.j5 (k + 1) y0)) ∧ (∀ y0 y1 y2 y3 y4 y5 y6 y7 y8 y9 y10 y11 y12 y13, LeO (laws_FnRtt.j1 k y0 y1 y2 y3 y4 y5 y6 y7 y8 y9 y10 y11 y12 y13) (laws_FnRtt.j1 (k + 1) y0 y1 y2 y3 y4 y5 y6 y7 y8 y9 y10 y11 y12 y13)) ∧ (∀ y0 y1 y2 y3 y4 y5 y6 y7 y8 y9 y10 y11 y12 y13 y14, LeO (laws_FnRtt.j2 k y0 y1 y2 y3 y4 y5 y6 y7 y8 y9 y10 y11 y12 y13 y14) (laws_FnRtt.j2 (k + 1) y0 y1 y2 y3 y4 y5 y6 y7 y8 y9 y10 y11 y12 y13 y14)) ∧ (∀ y0 y1 y2 y3 y4 y5 y6 y7 y8 y9 y10 y11 y12 y13, LeO (laws_FnRtt.j3 k y0 y1 y2 y3 y4 y5 y6 y7 y8 y9 y10 y11 y12 y13) (laws_FnRtt.j3 (k + 1) y0 y1 y2 y3 y4 y5 y6 y7 y8 y9 y10 y11 y12 y13)) ∧ (∀ y0 y1 y2 y3 y4 y5 y6 y7 y8 y9 y10 y11 y12 y13 y14, LeO (laws_FnRtt.j4 k y0 y1 y2 y3 y4 y5 y6 y7 y8 y9 y10 y11 y12 y13 y14) (laws_FnRtt.j4 (k + 1) y0 y1 y2 y3 y4 y5 y6 y7 y8 y9 y10 y11 y12 y13 y14))
  | 0 => ⟨fun _ _ _ _ _ _ _ _ _ _ _ _ _ _ _ r h => by simp [laws_FnRtt.j0] at h, fun _ r h => by simp [laws_FnRtt.j5] at h, fun _ _ _ _ _ _ _ _ _ _ _ _ _ _ r h => by simp [laws_FnRtt.j1] at h, fun _ _ _ _ _ _ _ _ _ _ _ _ _ _ _ r h => by simp [laws_FnRtt.j2] at h, fun _ _ _ _ _ _ _ _ _ _ _ _ _ _ r h => by simp [laws_FnRtt.j3] at h, fun _ _ _ _ _ _ _ _ _ _ _ _ _ _ _ r h => by simp [laws_FnRtt.j4] at h⟩
  | k + 1 => by
    obtain ⟨ih0, ih1, ih2, ih3, ih4, ih5⟩ := laws_FnRtt.mono_l k
    refine ⟨?_, ?_, ?_, ?_, ?_, ?_⟩
    · intro y0 y1 y2 y3 y4 y5 y6 y7 y8 y9 y10 y11 y12 y13 y14
      unfold laws_FnRtt.j0
      repeat' first
      | (with_reducible exact ih0 _ _ _ _ _ _ _ _ _ _ _ _ _ _ _)
      | (with_reducible exact ih1 _)
      | (with_reducible exact ih2 _ _ _ _ _ _ _ _ _ _ _ _ _ _)
      | (with_reducible exact ih3 _ _ _ _ _ _ _ _ _ _ _ _ _ _ _)
      | (with_reducible exact ih4 _ _ _ _ _ _ _ _ _ _ _ _ _ _)
      | (with_reducible exact ih5 _ _ _ _ _ _ _ _ _ _ _ _ _ _ _)
      | (with_reducible exact impl_ProbeTime.mono _ _ _ _ _ _ _ _)
      | (with_reducible exact spec_DrawProbeTime.mono _ _)
      | (with_reducible exact spec_DrawSampleRtt.mono _ _)
      | (with_reducible exact spec_ProbeTime.mono _ _ _ _ _ _ _ _)
      | (with_reducible exact spec_SampleRtt.mono _ _ _ _ _ _ _ _)
      | (with_reducible exact LeO.refl _)
      | (with_reducible exact LeO.none _)
      | (with_reducible refine LeO.ite ?_ ?_)
      | (with_reducible refine LeO.bind ?_ (fun _ => ?_))
      | exact ih0 _ _ _ _ _ _ _ _ _ _ _ _ _ _ _
      | exact ih1 _
      | exact ih2 _ _ _ _ _ _ _ _ _ _ _ _ _ _
      | exact ih3 _ _ _ _ _ _ _ _ _ _ _ _ _ _ _
      | exact ih4 _ _ _ _ _ _ _ _ _ _ _ _ _ _
      | exact ih5 _ _ _ _ _ _ _ _ _ _ _ _ _ _ _
      | exact impl_ProbeTime.mono _ _ _ _ _ _ _ _
      | exact spec_DrawProbeTime.mono _ _
      | exact spec_DrawSampleRtt.mono _ _
      | exact spec_ProbeTime.mono _ _ _ _ _ _ _ _
      | exact spec_SampleRtt.mono _ _ _ _ _ _ _ _
      | exact LeO.none _
      | refine LeO.ite ?_ ?_
      | refine LeO.bind ?_ (fun _ => ?_)
    · intro y0
      unfold laws_FnRtt.j5
      repeat' first
      | (with_reducible exact ih0 _ _ _ _ _ _ _ _ _ _ _ _ _ _ _)
      | (with_reducible exact ih1 _)
      | (with_reducible exact ih2 _ _ _ _ _ _ _ _ _ _ _ _ _ _)
      | (with_reducible exact ih3 _ _ _ _ _ _ _ _ _ _ _ _ _ _ _)
      | (with_reducible exact ih4 _ _ _ _ _ _ _ _ _ _ _ _ _ _)
      | (with_reducible exact ih5 _ _ _ _ _ _ _ _ _ _ _ _ _ _ _)
      | (with_reducible exact impl_ProbeTime.mono _ _ _ _ _ _ _ _)
      | (with_reducible exact spec_DrawProbeTime.mono _ _)
      | (with_reducible exact spec_DrawSampleRtt.mono _ _)
      | (with_reducible exact spec_ProbeTime.mono _ _ _ _ _ _ _ _)
      | (with_reducible exact spec_SampleRtt.mono _ _ _ _ _ _ _ _)
      | (with_reducible exact LeO.refl _)
      | (with_reducible exact LeO.none _)
      | (with_reducible refine LeO.ite ?_ ?_)
      | (with_reducible refine LeO.bind ?_ (fun _ => ?_))
      | exact ih0 _ _ _ _ _ _ _ _ _ _ _ _ _ _ _
      | exact ih1 _
      | exact ih2 _ _ _ _ _ _ _ _ _ _ _ _ _ _
      | exact ih3 _ _ _ _ _ _ _ _ _ _ _ _ _ _ _
      | exact ih4 _ _ _ _ _ _ _ _ _ _ _ _ _ _
      | exact ih5 _ _ _ _ _ _ _ _ _ _ _ _ _ _ _
      | exact impl_ProbeTime.mono _ _ _ _ _ _ _ _
      | exact spec_DrawProbeTime.mono _ _
      | exact spec_DrawSampleRtt.mono _ _
      | exact spec_ProbeTime.mono _ _ _ _ _ _ _ _
      | exact spec_SampleRtt.mono _ _ _ _ _ _ _ _
      | exact LeO.none _
      | refine LeO.ite ?_ ?_
      | refine LeO.bind ?_ (fun _ => ?_)
    · intro y0 y1 y2 y3 y4 y5 y6 y7 y8 y9 y10 y11 y12 y13
      unfold laws_FnRtt.j1
      repeat' first
      | (with_reducible exact ih0 _ _ _ _ _ _ _ _ _ _ _ _ _ _ _)
      | (with_reducible exact ih1 _)
      | (with_reducible exact ih2 _ _ _ _ _ _ _ _ _ _ _ _ _ _)
      | (with_reducible exact ih3 _ _ _ _ _ _ _ _ _ _ _ _ _ _ _)
      | (with_reducible exact ih4 _ _ _ _ _ _ _ _ _ _ _ _ _ _)
      | (with_reducible exact ih5 _ _ _ _ _ _ _ _ _ _ _ _ _ _ _)
      | (with_reducible exact impl_ProbeTime.mono _ _ _ _ _ _ _ _)
      | (with_reducible exact spec_DrawProbeTime.mono _ _)
      | (with_reducible exact spec_DrawSampleRtt.mono _ _)
      | (with_reducible exact spec_ProbeTime.mono _ _ _ _ _ _ _ _)
      | (with_reducible exact spec_SampleRtt.mono _ _ _ _ _ _ _ _)
      | (with_reducible exact LeO.refl _)
      | (with_reducible exact LeO.none _)
      | (with_reducible refine LeO.ite ?_ ?_)
      | (with_reducible refine LeO.bind ?_ (fun _ => ?_))
      | exact ih0 _ _ _ _ _ _ _ _ _ _ _ _ _ _ _
      | exact ih1 _
      | exact ih2 _ _ _ _ _ _ _ _ _ _ _ _ _ _
      | exact ih3 _ _ _ _ _ _ _ _ _ _ _ _ _ _ _
      | exact ih4 _ _ _ _ _ _ _ _ _ _ _ _ _ _
      | exact ih5 _ _ _ _ _ _ _ _ _ _ _ _ _ _ _
      | exact impl_ProbeTime.mono _ _ _ _ _ _ _ _
      | exact spec_DrawProbeTime.mono _ _
      | exact spec_DrawSampleRtt.mono _ _
      | exact spec_ProbeTime.mono _ _ _ _ _ _ _ _
      | exact spec_SampleRtt.mono _ _ _ _ _ _ _ _
      | exact LeO.none _
      | refine LeO.ite ?_ ?_
      | refine LeO.bind ?_ (fun _ => ?_)
    · intro y0 y1 y2 y3 y4 y5 y6 y7 y8 y9 y10 y11 y12 y13 y14
      unfold laws_FnRtt.j2
      repeat' first
      | (with_reducible exact ih0 _ _ _ _ _ _ _ _ _ _ _ _ _ _ _)
      | (with_reducible exact ih1 _)
      | (with_reducible exact ih2 _ _ _ _ _ _ _ _ _ _ _ _ _ _)
      | (with_reducible exact ih3 _ _ _ _ _ _ _ _ _ _ _ _ _ _ _)
      | (with_reducible exact ih4 _ _ _ _ _ _ _ _ _ _ _ _ _ _)
      | (with_reducible exact ih5 _ _ _ _ _ _ _ _ _ _ _ _ _ _ _)
      | (with_reducible exact impl_ProbeTime.mono _ _ _ _ _ _ _ _)
      | (with_reducible exact spec_DrawProbeTime.mono _ _)
      | (with_reducible exact spec_DrawSampleRtt.mono _ _)
      | (with_reducible exact spec_ProbeTime.mono _ _ _ _ _ _ _ _)
      | (with_reducible exact spec_SampleRtt.mono _ _ _ _ _ _ _ _)
      | (with_reducible exact LeO.refl _)
      | (with_reducible exact LeO.none _)
      | (with_reducible refine LeO.ite ?_ ?_)
      | (with_reducible refine LeO.bind ?_ (fun _ => ?_))
      | exact ih0 _ _ _ _ _ _ _ _ _ _ _ _ _ _ _
      | exact ih1 _
      | exact ih2 _ _ _ _ _ _ _ _ _ _ _ _ _ _
      | exact ih3 _ _ _ _ _ _ _ _ _ _ _ _ _ _ _
      | exact ih4 _ _ _ _ _ _ _ _ _ _ _ _ _ _
      | exact ih5 _ _ _ _ _ _ _ _ _ _ _ _ _ _ _
      | exact impl_ProbeTime.mono _ _ _ _ _ _ _ _
      | exact spec_DrawProbeTime.mono _ _
      | exact spec_DrawSampleRtt.mono _ _
      | exact spec_ProbeTime.mono _ _ _ _ _ _ _ _
      | exact spec_SampleRtt.mono _ _ _ _ _ _ _ _
      | exact LeO.none _
      | refine LeO.ite ?_ ?_
      | refine LeO.bind ?_ (fun _ => ?_)
    · intro y0 y1 y2 y3 y4 y5 y6 y7 y8 y9 y10 y11 y12 y13
      unfold laws_FnRtt.j3
      repeat' first
      | (with_reducible exact ih0 _ _ _ _ _ _ _ _ _ _ _ _ _ _ _)
      | (with_reducible exact ih1 _)
      | (with_reducible exact ih2 _ _ _ _ _ _ _ _ _ _ _ _ _ _)
      | (with_reducible exact ih3 _ _ _ _ _ _ _ _ _ _ _ _ _ _ _)
      | (with_reducible exact ih4 _ _ _ _ _ _ _ _ _ _ _ _ _ _)
      | (with_reducible exact ih5 _ _ _ _ _ _ _ _ _ _ _ _ _ _ _)
      | (with_reducible exact impl_ProbeTime.mono _ _ _ _ _ _ _ _)
      | (with_reducible exact spec_DrawProbeTime.mono _ _)
      | (with_reducible exact spec_DrawSampleRtt.mono _ _)
      | (with_reducible exact spec_ProbeTime.mono _ _ _ _ _ _ _ _)
      | (with_reducible exact spec_SampleRtt.mono _ _ _ _ _ _ _ _)
      | (with_reducible exact LeO.refl _)
      | (with_reducible exact LeO.none _)
      | (with_reducible refine LeO.ite ?_ ?_)
      | (with_reducible refine LeO.bind ?_ (fun _ => ?_))
      | exact ih0 _ _ _ _ _ _ _ _ _ _ _ _ _ _ _
      | exact ih1 _
      | exact ih2 _ _ _ _ _ _ _ _ _ _ _ _ _ _
      | exact ih3 _ _ _ _ _ _ _ _ _ _ _ _ _ _ _
      | exact ih4 _ _ _ _ _ _ _ _ _ _ _ _ _ _
      | exact ih5 _ _ _ _ _ _ _ _ _ _ _ _ _ _ _
      | exact impl_ProbeTime.mono _ _ _ _ _ _ _ _
      | exact spec_DrawProbeTime.mono _ _
      | exact spec_DrawSampleRtt.mono _ _
      | exact spec_ProbeTime.mono _ _ _ _ _ _ _ _
      | exact spec_SampleRtt.mono _ _ _ _ _ _ _ _
      | exact LeO.none _
      | refine LeO.ite ?_ ?_
      | refine LeO.bind ?_ (fun _ => ?_)
    · intro y0 y1 y2 y3 y4 y5 y6 y7 y8 y9 y10 y11 y12 y13 y14
      unfold laws_FnRtt.j4
      repeat' first
      | (with_reducible exact ih0 _ _ _ _ _ _ _ _ _ _ _ _ _ _ _)
      | (with_reducible exact ih1 _)
      | (with_reducible exact ih2 _ _ _ _ _ _ _ _ _ _ _ _ _ _)
      | (with_reducible exact ih3 _ _ _ _ _ _ _ _ _ _ _ _ _ _ _)
      | (with_reducible exact ih4 _ _ _ _ _ _ _ _ _ _ _ _ _ _)
      | (with_reducible exact ih5 _ _ _ _ _ _ _ _ _ _ _ _ _ _ _)
      | (with_reducible exact impl_ProbeTime.mono _ _ _ _ _ _ _ _)
      | (with_reducible exact spec_DrawProbeTime.mono _ _)
      | (with_reducible exact spec_DrawSampleRtt.mono _ _)
      | (with_reducible exact spec_ProbeTime.mono _ _ _ _ _ _ _ _)
      | (with_reducible exact spec_SampleRtt.mono _ _ _ _ _ _ _ _)
      | (with_reducible exact LeO.refl _)
      | (with_reducible exact LeO.none _)
      | (with_reducible refine LeO.ite ?_ ?_)
      | (with_reducible refine LeO.bind ?_ (fun _ => ?_))
      | exact ih0 _ _ _ _ _ _ _ _ _ _ _ _ _ _ _
      | exact ih1 _
      | exact ih2 _ _ _ _ _ _ _ _ _ _ _ _ _ _
      | exact ih3 _ _ _ _ _ _ _ _ _ _ _ _ _ _ _
      | exact ih4 _ _ _ _ _ _ _ _ _ _ _ _ _ _
      | exact ih5 _ _ _ _ _ _ _ _ _ _ _ _ _ _ _
      | exact impl_ProbeTime.mono _ _ _ _ _ _ _ _
      | exact spec_DrawProbeTime.mono _ _
      | exact spec_DrawSampleRtt.mono _ _
      | exact spec_ProbeTime.mono _ _ _ _ _ _ _ _
      | exact spec_SampleRtt.mono _ _ _ _ _ _ _ _
      | exact LeO.none _
      | refine LeO.ite ?_ ?_
      | refine LeO.bind ?_ (fun _ => ?_)
theorem laws_FnRtt.mono : ∀ a0 a1 k, LeO (laws_FnRtt.f k a0 a1) (laws_FnRtt.f (k + 1) a0 a1) := by
  intro a0 a1 k
  obtain ⟨ih0, ih1, ih2, ih3, ih4, ih5⟩ := laws_FnRtt.mono_l k
  unfold laws_FnRtt.f
  repeat' first
      | (with_reducible exact ih0 _ _ _ _ _ _ _ _ _ _ _ _ _ _ _)
      | (with_reducible exact ih1 _)
      | (with_reducible exact ih2 _ _ _ _ _ _ _ _ _ _ _ _ _ _)
      | (with_reducible exact ih3 _ _ _ _ _ _ _ _ _ _ _ _ _ _ _)
      | (with_reducible exact ih4 _ _ _ _ _ _ _ _ _ _ _ _ _ _)
      | (with_reducible exact ih5 _ _ _ _ _ _ _ _ _ _ _ _ _ _ _)
      | (with_reducible exact impl_ProbeTime.mono _ _ _ _ _ _ _ _)
      | (with_reducible exact spec_DrawProbeTime.mono _ _)
      | (with_reducible exact spec_DrawSampleRtt.mono _ _)
      | (with_reducible exact spec_ProbeTime.mono _ _ _ _ _ _ _ _)
      | (with_reducible exact spec_SampleRtt.mono _ _ _ _ _ _ _ _)
      | (with_reducible exact LeO.refl _)
      | (with_reducible exact LeO.none _)
      | (with_reducible refine LeO.ite ?_ ?_)
      | (with_reducible refine LeO.bind ?_ (fun _ => ?_))
      | exact ih0 _ _ _ _ _ _ _ _ _ _ _ _ _ _ _
      | exact ih1 _
      | exact ih2 _ _ _ _ _ _ _ _ _ _ _ _ _ _
      | exact ih3 _ _ _ _ _ _ _ _ _ _ _ _ _ _ _
      | exact ih4 _ _ _ _ _ _ _ _ _ _ _ _ _ _
      | exact ih5 _ _ _ _ _ _ _ _ _ _ _ _ _ _ _
      | exact impl_ProbeTime.mono _ _ _ _ _ _ _ _
      | exact spec_DrawProbeTime.mono _ _
      | exact spec_DrawSampleRtt.mono _ _
      | exact spec_ProbeTime.mono _ _ _ _ _ _ _ _
      | exact spec_SampleRtt.mono _ _ _ _ _ _ _ _
      | exact LeO.none _
      | refine LeO.ite ?_ ?_
      | refine LeO.bind ?_ (fun _ => ?_)
set_option maxHeartbeats 8000000 in
set_option maxRecDepth 100000 in
theorem laws_FnRtt.calls (k : Nat) (A0 : Option Addr) (c0 : Nat) (l0 : List Int) (A1 : Option Addr) (c1 : Nat) (l1 : List Int) (r : Bool) (w : World) (hr0 : Kd.C (Kd.int .u8) w A0 l0.length l0) (hc0 : l0.length ≤ c0) (hr1 : Kd.C (Kd.int .u8) w A1 l1.length l1) (hc1 : l1.length ≤ c1) (h : laws_FnRtt.f k l0 l1 = some r) :
    Calls Try.prog 8 #[.slice A0 l0.length c0, .slice A1 l1.length c1] w fun e w' => e = .returned (.bool r) ∧ Below w.heap.size w w' := by
  have hu39 := Try.underlying39
  have HR0 := Aside0.mk hr0
  have HC0 := Aside0.mk hc0
  clear hr0 hc0
  have HR1 := Aside0.mk hr1
  have HC1 := Aside0.mk hc1
  clear hr1 hc1
  have HB := Aside0.mk (Below.refl w.heap.size w)
  have H : (if (wrap64 ((l0.length : Int) + (l1.length : Int))) > 1048576 then (some true) else ((spec_DrawSampleRtt.f k l0).bind fun bt233 => ((impl_SampleRtt.f bt233.1 bt233.2.1 bt233.2.2.1 bt233.2.2.2.1 bt233.2.2.2.2.1 bt233.2.2.2.2.2.1 bt233.2.2.2.2.2.2).bind fun bt241 => ((spec_SampleRtt.f k bt233.1 bt233.2.1 bt233.2.2.1 bt233.2.2.2.1 bt233.2.2.2.2.1 bt233.2.2.2.2.2.1 bt233.2.2.2.2.2.2).bind fun bt248 => (if (bt241.2.2.2.2.2 != bt248.2.2.2.2.2) = true then (laws_FnRtt.j0 k l1 bt233.2.2.2.2.2.1 bt233.2.2.2.2.2.2 bt241.2.2.2.2.2 true bt233.1 bt233.2.1 bt233.2.2.1 bt233.2.2.2.1 bt233.2.2.2.2.1 bt241.1 bt241.2.1 bt241.2.2.1 bt241.2.2.2.1 bt241.2.2.2.2.1) else (laws_FnRtt.j0 k l1 bt233.2.2.2.2.2.1 bt233.2.2.2.2.2.2 bt241.2.2.2.2.2 (!(bt241.1 == bt248.1) || (!(bt241.2.1 == bt248.2.1) || (!(bt241.2.2.1 == bt248.2.2.1) || (!(bt241.2.2.2.1 == bt248.2.2.2.1) || (!(bt241.2.2.2.2.1 == bt248.2.2.2.2.1)))))) bt233.1 bt233.2.1 bt233.2.2.1 bt233.2.2.2.1 bt233.2.2.2.2.1 bt241.1 bt241.2.1 bt241.2.2.1 bt241.2.2.2.1 bt241.2.2.2.2.1)))))) = some r := h
  clear h
  by_cases c3 : (wrap64 ((l0.length : Int) + (l1.length : Int))) > 1048576
  · rw [if_pos c3] at H
    have c3b0 : decide (1048576 < (wrap64 ((l0.length : Int) + (l1.length : Int)))) = true := decide_eq_true c3
    clear c3
    obtain rfl := Option.some.inj H
    go_enter Try.func8, Try.ntmps8
    go_wp2
    go_ret
    exact ⟨by first | rfl | (simp [errW_none, errW_some] <;> rfl) | (simp [*, errW_none, errW_some] <;> rfl), by repeat (first | (with_reducible first | exact HB.out | apply below_alloc | apply pw_below_drewN | apply below_drew1) | exact HB.out)⟩
  · rw [if_neg c3] at H
    have c3b0 : decide (1048576 < (wrap64 ((l0.length : Int) + (l1.length : Int)))) = false := decide_eq_false c3
    clear c3
    replace H := Option.bind_eq_some_iff.mp H
    obtain ⟨⟨t233, t234, t235, t236, t237, t238, t239⟩, A40, H⟩ := H
    replace H : ((impl_SampleRtt.f t233 t234 t235 t236 t237 t238 t239).bind fun bt241 => ((spec_SampleRtt.f k t233 t234 t235 t236 t237 t238 t239).bind fun bt248 => (if (bt241.2.2.2.2.2 != bt248.2.2.2.2.2) = true then (laws_FnRtt.j0 k l1 t238 t239 bt241.2.2.2.2.2 true t233 t234 t235 t236 t237 bt241.1 bt241.2.1 bt241.2.2.1 bt241.2.2.2.1 bt241.2.2.2.2.1) else (laws_FnRtt.j0 k l1 t238 t239 bt241.2.2.2.2.2 (!(bt241.1 == bt248.1) || (!(bt241.2.1 == bt248.2.1) || (!(bt241.2.2.1 == bt248.2.2.1) || (!(bt241.2.2.2.1 == bt248.2.2.2.1) || (!(bt241.2.2.2.2.1 == bt248.2.2.2.2.1)))))) t233 t234 t235 t236 t237 bt241.1 bt241.2.1 bt241.2.2.1 bt241.2.2.2.1 bt241.2.2.2.2.1)))) = some r := H
    have A4 := Aside0.mk A40
    clear A40
    replace H := Option.bind_eq_some_iff.mp H
    obtain ⟨⟨t241, t242, t243, t244, t245, t246⟩, A50, H⟩ := H
    replace H : ((spec_SampleRtt.f k t233 t234 t235 t236 t237 t238 t239).bind fun bt248 => (if (t246 != bt248.2.2.2.2.2) = true then (laws_FnRtt.j0 k l1 t238 t239 t246 true t233 t234 t235 t236 t237 t241 t242 t243 t244 t245) else (laws_FnRtt.j0 k l1 t238 t239 t246 (!(t241 == bt248.1) || (!(t242 == bt248.2.1) || (!(t243 == bt248.2.2.1) || (!(t244 == bt248.2.2.2.1) || (!(t245 == bt248.2.2.2.2.1)))))) t233 t234 t235 t236 t237 t241 t242 t243 t244 t245))) = some r := H
    have A5 := Aside0.mk A50
    clear A50
    replace H := Option.bind_eq_some_iff.mp H
    obtain ⟨⟨t248, t249, t250, t251, t252, t253⟩, A60, H⟩ := H
    replace H : (if (t246 != t253) = true then (laws_FnRtt.j0 k l1 t238 t239 t246 true t233 t234 t235 t236 t237 t241 t242 t243 t244 t245) else (laws_FnRtt.j0 k l1 t238 t239 t246 (!(t241 == t248) || (!(t242 == t249) || (!(t243 == t250) || (!(t244 == t251) || (!(t245 == t252)))))) t233 t234 t235 t236 t237 t241 t242 t243 t244 t245)) = some r := H
    have A6 := Aside0.mk A60
    clear A60
    have HC7 := Aside0.mk H
    clear H
    go_enter Try.func8, Try.ntmps8
    go_upto_region 6 with (first | ((with_reducible refine gate_callee (f := 25) rfl ?_); refine goesL_ (some 31) rfl rfl Try.func25 (by kernel_rfl) rfl #[.slice A0 l0.length c0] rfl (by (try simp only [List.map_toArray, List.map_cons, List.map_nil]); first | done | rfl | (simp only [List.length_drop, List.length_take]; rfl)) ?_; (with_reducible refine (spec_DrawSampleRtt.calls k _ _ l0 t233 t234 t235 t236 t237 t238 t239 _ ?side1 ?side2 A4.out).mono ?_); (case side1 => repeat (first | exact HR0.out | (with_reducible refine Kd.C_alloc ?_ _) | (with_reducible refine Kd.C_drewN ?_ _) | (with_reducible refine Kd.C_drew ?_))); (case side2 => exact HC0.out); rintro e w8 ⟨rfl, hb⟩; refine ⟨_, rfl, ?_⟩; have n0_ := Aside0.mk (below_step (by repeat (first | (with_reducible first | exact HB.out | apply below_alloc | apply pw_below_drewN | apply below_drew1) | exact HB.out)) hb); clear HB; have HB := n0_; clear n0_; (try clear hb); (try clear hb2); (try clear hk); (try clear hi)) | ((with_reducible refine gate_dst (N := 5) rfl ?_); refine box_event ?hg (N := 5) ?hd (cs := #[.bool false, .int .i64 0, .int .i64 0, .int .i64 0, .int .i64 0]) (t := 39) ?hr ?_; (case hd => rfl); (case hg => rfl); (case hr => first | (go_simp; done) | (go_simp; rfl)); intro gb240 hg w9 hbox hb; have n0_ := Aside0.mk (below_step (by repeat (first | (with_reducible first | exact HB.out | apply below_alloc | apply pw_below_drewN | apply below_drew1) | exact HB.out)) hb); have n1_ := Aside0.mk (hbox); have n2_ := Aside0.mk ((by rw [hg]; exact (below_size (by repeat (first | (with_reducible first | exact HB.out | apply below_alloc | apply pw_below_drewN | apply below_drew1) | exact HB.out))) : w.heap.size ≤ gb240)); have n3_ := Aside0.mk ((by rw [hg]; exact (below_size (by repeat (first | (with_reducible first | exact HB.out | apply below_alloc | apply pw_below_drewN | apply below_drew1) | exact HB.out))) : w.heap.size ≤ gb240)); clear HB; have HB := n0_; have BK240 := n1_; have GW240 := n2_; have GE240 := n3_; clear n0_ n1_ n2_ n3_; clear hb hbox hg; have hcz10_0 : w9.cell? ⟨gb240, 0, none⟩ = some (.bool false) := (blk_cell BK240.out 0).trans rfl; have hcz10_1 : w9.cell? ⟨gb240, 1, none⟩ = some (.int .i64 0) := (blk_cell BK240.out 1).trans rfl; have hcz10_2 : w9.cell? ⟨gb240, 2, none⟩ = some (.int .i64 0) := (blk_cell BK240.out 2).trans rfl; have hcz10_3 : w9.cell? ⟨gb240, 3, none⟩ = some (.int .i64 0) := (blk_cell BK240.out 3).trans rfl; have hcz10_4 : w9.cell? ⟨gb240, 4, none⟩ = some (.int .i64 0) := (blk_cell BK240.out 4).trans rfl; have hfz10_0 := blk_frozen BK240.out 0; have hfz10_1 := blk_frozen BK240.out 1; have hfz10_2 := blk_frozen BK240.out 2; have hfz10_3 := blk_frozen BK240.out 3; have hfz10_4 := blk_frozen BK240.out 4) | ((with_reducible refine gate_callee (f := 26) rfl ?_); refine goesL_ (some 39) rfl rfl Try.func26 (by kernel_rfl) rfl #[.agg #[.bool t233, .int .i64 t234, .int .i64 t235, .int .i64 t236, .int .i64 t237], .int .i64 t238, .int .i64 t239] rfl (by (try simp only [List.map_toArray, List.map_cons, List.map_nil]); first | done | rfl | (simp only [List.length_drop, List.length_take]; rfl)) ?_; (with_reducible refine (impl_SampleRtt.calls t233 t234 t235 t236 t237 t238 t239 t241 t242 t243 t244 t245 t246 _ A5.out).mono ?_); rintro e w11 ⟨rfl, hb⟩; refine ⟨_, rfl, ?_⟩; have n0_ := Aside0.mk (blk_below (g := gb240) (o := .cells #[.bool t233, .int .i64 t234, .int .i64 t235, .int .i64 t236, .int .i64 t237] 39 (0, 0)) (by (with_reducible repeat (first | refine blk_drewN ?_ _ | refine blk_drew ?_ | refine blk_alloc ?_ _)); refine blk_put (cs := #[.bool t233, .int .i64 t234, .int .i64 t235, .int .i64 t236, .int .i64 0]) ?_ 4 _ rfl; (with_reducible repeat (first | refine blk_drewN ?_ _ | refine blk_drew ?_ | refine blk_alloc ?_ _)); refine blk_put (cs := #[.bool t233, .int .i64 t234, .int .i64 t235, .int .i64 0, .int .i64 0]) ?_ 3 _ rfl; (with_reducible repeat (first | refine blk_drewN ?_ _ | refine blk_drew ?_ | refine blk_alloc ?_ _)); refine blk_put (cs := #[.bool t233, .int .i64 t234, .int .i64 0, .int .i64 0, .int .i64 0]) ?_ 2 _ rfl; (with_reducible repeat (first | refine blk_drewN ?_ _ | refine blk_drew ?_ | refine blk_alloc ?_ _)); refine blk_put (cs := #[.bool t233, .int .i64 0, .int .i64 0, .int .i64 0, .int .i64 0]) ?_ 1 _ rfl; (with_reducible repeat (first | refine blk_drewN ?_ _ | refine blk_drew ?_ | refine blk_alloc ?_ _)); refine blk_put (cs := #[.bool false, .int .i64 0, .int .i64 0, .int .i64 0, .int .i64 0]) ?_ 0 _ rfl; (with_reducible repeat (first | refine blk_drewN ?_ _ | refine blk_drew ?_ | refine blk_alloc ?_ _)); exact BK240.out) hb); have n1_ := Aside0.mk (below_step (by repeat (first | (with_reducible first | exact HB.out | apply below_alloc | apply pw_below_drewN | apply below_drew1 | refine below_set ?_ GE240.out) | exact HB.out)) hb); clear BK240; clear HB; have BK240 := n0_; have HB := n1_; clear n0_ n1_; (try clear hb); (try clear hb2); (try clear hk); (try clear hi)) | ((with_reducible refine gate_dst (N := 8) rfl ?_); refine box_event ?hg (N := 8) ?hd (cs := #[.bool false, .int .i64 0, .int .i64 0, .int .i64 0, .int .i64 0]) (t := 39) ?hr ?_; (case hd => rfl); (case hg => rfl); (case hr => first | (go_simp; done) | (go_simp; rfl)); intro gb247 hg w12 hbox hb; have n0_ := Aside0.mk (blk_below (g := gb240) (o := .cells #[.bool t233, .int .i64 t234, .int .i64 t235, .int .i64 t236, .int .i64 t237] 39 (0, 0)) (by (with_reducible repeat (first | refine blk_drewN ?_ _ | refine blk_drew ?_ | refine blk_alloc ?_ _)); exact BK240.out) hb); have n1_ := Aside0.mk (below_step (by repeat (first | (with_reducible first | exact HB.out | apply below_alloc | apply pw_below_drewN | apply below_drew1 | refine below_set ?_ GE240.out) | exact HB.out)) hb); have n2_ := Aside0.mk (hbox); have n3_ := Aside0.mk ((by rw [hg]; exact (below_size (by repeat (first | (with_reducible first | exact HB.out | apply below_alloc | apply pw_below_drewN | apply below_drew1 | refine below_set ?_ GE240.out) | exact HB.out))) : w.heap.size ≤ gb247)); have n4_ := Aside0.mk ((by rw [hg]; exact (below_size (by repeat (first | (with_reducible first | exact HB.out | apply below_alloc | apply pw_below_drewN | apply below_drew1 | refine below_set ?_ GE240.out) | exact HB.out))) : w.heap.size ≤ gb247)); have n5_ := Aside0.mk ((by rw [hg]; exact Nat.ne_of_lt (blk_lt (g := gb240) (o := .cells #[.bool t233, .int .i64 t234, .int .i64 t235, .int .i64 t236, .int .i64 t237] 39 (0, 0)) (by (with_reducible repeat (first | refine blk_drewN ?_ _ | refine blk_drew ?_ | refine blk_alloc ?_ _)); exact BK240.out)) : gb240 ≠ gb247)); have n6_ := Aside0.mk ((by rw [hg]; exact Nat.ne_of_gt (blk_lt (g := gb240) (o := .cells #[.bool t233, .int .i64 t234, .int .i64 t235, .int .i64 t236, .int .i64 t237] 39 (0, 0)) (by (with_reducible repeat (first | refine blk_drewN ?_ _ | refine blk_drew ?_ | refine blk_alloc ?_ _)); exact BK240.out)) : gb247 ≠ gb240)); clear BK240; clear HB; have BK240 := n0_; have HB := n1_; have BK247 := n2_; have GW247 := n3_; have GE247 := n4_; have NB240_247 := n5_; have NB247_240 := n6_; clear n0_ n1_ n2_ n3_ n4_ n5_ n6_; clear hb hbox hg; have hnb13 := NB247_240.out; have hnc13 := NB240_247.out; have hcz14_0 : w12.cell? ⟨gb247, 0, none⟩ = some (.bool false) := (blk_cell BK247.out 0).trans rfl; have hcz14_1 : w12.cell? ⟨gb247, 1, none⟩ = some (.int .i64 0) := (blk_cell BK247.out 1).trans rfl; have hcz14_2 : w12.cell? ⟨gb247, 2, none⟩ = some (.int .i64 0) := (blk_cell BK247.out 2).trans rfl; have hcz14_3 : w12.cell? ⟨gb247, 3, none⟩ = some (.int .i64 0) := (blk_cell BK247.out 3).trans rfl; have hcz14_4 : w12.cell? ⟨gb247, 4, none⟩ = some (.int .i64 0) := (blk_cell BK247.out 4).trans rfl; have hfz14_0 := blk_frozen BK247.out 0; have hfz14_1 := blk_frozen BK247.out 1; have hfz14_2 := blk_frozen BK247.out 2; have hfz14_3 := blk_frozen BK247.out 3; have hfz14_4 := blk_frozen BK247.out 4; have hcz15_0 : w12.cell? ⟨gb240, 0, none⟩ = some (.bool t233) := (blk_cell BK240.out 0).trans rfl; have hcz15_1 : w12.cell? ⟨gb240, 1, none⟩ = some (.int .i64 t234) := (blk_cell BK240.out 1).trans rfl; have hcz15_2 : w12.cell? ⟨gb240, 2, none⟩ = some (.int .i64 t235) := (blk_cell BK240.out 2).trans rfl; have hcz15_3 : w12.cell? ⟨gb240, 3, none⟩ = some (.int .i64 t236) := (blk_cell BK240.out 3).trans rfl; have hcz15_4 : w12.cell? ⟨gb240, 4, none⟩ = some (.int .i64 t237) := (blk_cell BK240.out 4).trans rfl; have hfz15_0 := blk_frozen BK240.out 0; have hfz15_1 := blk_frozen BK240.out 1; have hfz15_2 := blk_frozen BK240.out 2; have hfz15_3 := blk_frozen BK240.out 3; have hfz15_4 := blk_frozen BK240.out 4) | ((with_reducible refine gate_callee (f := 27) rfl ?_); refine goesL_ (some 46) rfl rfl Try.func27 (by kernel_rfl) rfl #[.agg #[.bool t233, .int .i64 t234, .int .i64 t235, .int .i64 t236, .int .i64 t237], .int .i64 t238, .int .i64 t239] rfl (by (try simp only [List.map_toArray, List.map_cons, List.map_nil]); first | done | rfl | (simp only [List.length_drop, List.length_take]; rfl)) ?_; (with_reducible refine (spec_SampleRtt.calls k t233 t234 t235 t236 t237 t238 t239 t248 t249 t250 t251 t252 t253 _ A6.out).mono ?_); rintro e w16 ⟨rfl, hb⟩; refine ⟨_, rfl, ?_⟩; have n0_ := Aside0.mk (blk_below (g := gb240) (o := .cells #[.bool t233, .int .i64 t234, .int .i64 t235, .int .i64 t236, .int .i64 t237] 39 (0, 0)) (by (with_reducible repeat (first | refine blk_drewN ?_ _ | refine blk_drew ?_ | refine blk_alloc ?_ _)); refine blk_far ?_ NB240_247.out _; (with_reducible repeat (first | refine blk_drewN ?_ _ | refine blk_drew ?_ | refine blk_alloc ?_ _)); refine blk_far ?_ NB240_247.out _; (with_reducible repeat (first | refine blk_drewN ?_ _ | refine blk_drew ?_ | refine blk_alloc ?_ _)); refine blk_far ?_ NB240_247.out _; (with_reducible repeat (first | refine blk_drewN ?_ _ | refine blk_drew ?_ | refine blk_alloc ?_ _)); refine blk_far ?_ NB240_247.out _; (with_reducible repeat (first | refine blk_drewN ?_ _ | refine blk_drew ?_ | refine blk_alloc ?_ _)); refine blk_far ?_ NB240_247.out _; (with_reducible repeat (first | refine blk_drewN ?_ _ | refine blk_drew ?_ | refine blk_alloc ?_ _)); exact BK240.out) hb); have n1_ := Aside0.mk (blk_below (g := gb247) (o := .cells #[.bool t241, .int .i64 t242, .int .i64 t243, .int .i64 t244, .int .i64 t245] 39 (0, 0)) (by (with_reducible repeat (first | refine blk_drewN ?_ _ | refine blk_drew ?_ | refine blk_alloc ?_ _)); refine blk_put (cs := #[.bool t241, .int .i64 t242, .int .i64 t243, .int .i64 t244, .int .i64 0]) ?_ 4 _ rfl; (with_reducible repeat (first | refine blk_drewN ?_ _ | refine blk_drew ?_ | refine blk_alloc ?_ _)); refine blk_put (cs := #[.bool t241, .int .i64 t242, .int .i64 t243, .int .i64 0, .int .i64 0]) ?_ 3 _ rfl; (with_reducible repeat (first | refine blk_drewN ?_ _ | refine blk_drew ?_ | refine blk_alloc ?_ _)); refine blk_put (cs := #[.bool t241, .int .i64 t242, .int .i64 0, .int .i64 0, .int .i64 0]) ?_ 2 _ rfl; (with_reducible repeat (first | refine blk_drewN ?_ _ | refine blk_drew ?_ | refine blk_alloc ?_ _)); refine blk_put (cs := #[.bool t241, .int .i64 0, .int .i64 0, .int .i64 0, .int .i64 0]) ?_ 1 _ rfl; (with_reducible repeat (first | refine blk_drewN ?_ _ | refine blk_drew ?_ | refine blk_alloc ?_ _)); refine blk_put (cs := #[.bool false, .int .i64 0, .int .i64 0, .int .i64 0, .int .i64 0]) ?_ 0 _ rfl; (with_reducible repeat (first | refine blk_drewN ?_ _ | refine blk_drew ?_ | refine blk_alloc ?_ _)); exact BK247.out) hb); have n2_ := Aside0.mk (below_step (by repeat (first | (with_reducible first | exact HB.out | apply below_alloc | apply pw_below_drewN | apply below_drew1 | refine below_set ?_ GE240.out | refine below_set ?_ GE247.out) | exact HB.out)) hb); clear BK240; clear BK247; clear HB; have BK240 := n0_; have BK247 := n1_; have HB := n2_; clear n0_ n1_ n2_; (try clear hb); (try clear hb2); (try clear hk); (try clear hi)) | ((with_reducible refine gate_dst (N := 10) rfl ?_); refine box_event ?hg (N := 10) ?hd (cs := #[.bool false, .int .i64 0, .int .i64 0, .int .i64 0, .int .i64 0]) (t := 39) ?hr ?_; (case hd => rfl); (case hg => rfl); (case hr => first | (go_simp; done) | (go_simp; rfl)); intro gb254 hg w17 hbox hb; have n0_ := Aside0.mk (blk_below (g := gb240) (o := .cells #[.bool t233, .int .i64 t234, .int .i64 t235, .int .i64 t236, .int .i64 t237] 39 (0, 0)) (by (with_reducible repeat (first | refine blk_drewN ?_ _ | refine blk_drew ?_ | refine blk_alloc ?_ _)); exact BK240.out) hb); have n1_ := Aside0.mk (blk_below (g := gb247) (o := .cells #[.bool t241, .int .i64 t242, .int .i64 t243, .int .i64 t244, .int .i64 t245] 39 (0, 0)) (by (with_reducible repeat (first | refine blk_drewN ?_ _ | refine blk_drew ?_ | refine blk_alloc ?_ _)); exact BK247.out) hb); have n2_ := Aside0.mk (below_step (by repeat (first | (with_reducible first | exact HB.out | apply below_alloc | apply pw_below_drewN | apply below_drew1 | refine below_set ?_ GE240.out | refine below_set ?_ GE247.out) | exact HB.out)) hb); have n3_ := Aside0.mk (hbox); have n4_ := Aside0.mk ((by rw [hg]; exact (below_size (by repeat (first | (with_reducible first | exact HB.out | apply below_alloc | apply pw_below_drewN | apply below_drew1 | refine below_set ?_ GE240.out | refine below_set ?_ GE247.out) | exact HB.out))) : w.heap.size ≤ gb254)); have n5_ := Aside0.mk ((by rw [hg]; exact (below_size (by repeat (first | (with_reducible first | exact HB.out | apply below_alloc | apply pw_below_drewN | apply below_drew1 | refine below_set ?_ GE240.out | refine below_set ?_ GE247.out) | exact HB.out))) : w.heap.size ≤ gb254)); have n6_ := Aside0.mk ((by rw [hg]; exact Nat.ne_of_lt (blk_lt (g := gb240) (o := .cells #[.bool t233, .int .i64 t234, .int .i64 t235, .int .i64 t236, .int .i64 t237] 39 (0, 0)) (by (with_reducible repeat (first | refine blk_drewN ?_ _ | refine blk_drew ?_ | refine blk_alloc ?_ _)); exact BK240.out)) : gb240 ≠ gb254)); have n7_ := Aside0.mk ((by rw [hg]; exact Nat.ne_of_gt (blk_lt (g := gb240) (o := .cells #[.bool t233, .int .i64 t234, .int .i64 t235, .int .i64 t236, .int .i64 t237] 39 (0, 0)) (by (with_reducible repeat (first | refine blk_drewN ?_ _ | refine blk_drew ?_ | refine blk_alloc ?_ _)); exact BK240.out)) : gb254 ≠ gb240)); have n8_ := Aside0.mk ((by rw [hg]; exact Nat.ne_of_lt (blk_lt (g := gb247) (o := .cells #[.bool t241, .int .i64 t242, .int .i64 t243, .int .i64 t244, .int .i64 t245] 39 (0, 0)) (by (with_reducible repeat (first | refine blk_drewN ?_ _ | refine blk_drew ?_ | refine blk_alloc ?_ _)); exact BK247.out)) : gb247 ≠ gb254)); have n9_ := Aside0.mk ((by rw [hg]; exact Nat.ne_of_gt (blk_lt (g := gb247) (o := .cells #[.bool t241, .int .i64 t242, .int .i64 t243, .int .i64 t244, .int .i64 t245] 39 (0, 0)) (by (with_reducible repeat (first | refine blk_drewN ?_ _ | refine blk_drew ?_ | refine blk_alloc ?_ _)); exact BK247.out)) : gb254 ≠ gb247)); clear BK240; clear BK247; clear HB; have BK240 := n0_; have BK247 := n1_; have HB := n2_; have BK254 := n3_; have GW254 := n4_; have GE254 := n5_; have NB240_254 := n6_; have NB254_240 := n7_; have NB247_254 := n8_; have NB254_247 := n9_; clear n0_ n1_ n2_ n3_ n4_ n5_ n6_ n7_ n8_ n9_; clear hb hbox hg; have hnb18 := NB254_240.out; have hnc18 := NB240_254.out; have hnb19 := NB254_247.out; have hnc19 := NB247_254.out; have hcz20_0 : w17.cell? ⟨gb254, 0, none⟩ = some (.bool false) := (blk_cell BK254.out 0).trans rfl; have hcz20_1 : w17.cell? ⟨gb254, 1, none⟩ = some (.int .i64 0) := (blk_cell BK254.out 1).trans rfl; have hcz20_2 : w17.cell? ⟨gb254, 2, none⟩ = some (.int .i64 0) := (blk_cell BK254.out 2).trans rfl; have hcz20_3 : w17.cell? ⟨gb254, 3, none⟩ = some (.int .i64 0) := (blk_cell BK254.out 3).trans rfl; have hcz20_4 : w17.cell? ⟨gb254, 4, none⟩ = some (.int .i64 0) := (blk_cell BK254.out 4).trans rfl; have hfz20_0 := blk_frozen BK254.out 0; have hfz20_1 := blk_frozen BK254.out 1; have hfz20_2 := blk_frozen BK254.out 2; have hfz20_3 := blk_frozen BK254.out 3; have hfz20_4 := blk_frozen BK254.out 4))
    (try simp only [Act.put, List.setIfInBounds_toArray, List.set_cons_zero, List.set_cons_succ])
    go_cut [56] (fun v56 wc => ∃ (kq : Nat) (x56_6 : Bool), v56 = .bool x56_6 ∧ Aside0 (laws_FnRtt.j0 kq l1 t238 t239 t246 x56_6 t233 t234 t235 t236 t237 t241 t242 t243 t244 t245 = some r) ∧ Aside0 (kq ≤ k) ∧ Aside0 (wc.heap[gb240]? = some (.cells #[.bool t233, .int .i64 t234, .int .i64 t235, .int .i64 t236, .int .i64 t237] 39 (0, 0))) ∧ Aside0 (wc.heap[gb247]? = some (.cells #[.bool t241, .int .i64 t242, .int .i64 t243, .int .i64 t244, .int .i64 t245] 39 (0, 0))) ∧ Aside0 (wc.heap[gb254]? = some (.cells #[.bool t248, .int .i64 t249, .int .i64 t250, .int .i64 t251, .int .i64 t252] 39 (0, 0))) ∧ Aside0 (Below w.heap.size w wc))
    case first =>
      have H := HC7.out
      clear HC7
      by_cases c21 : (t246 != t253) = true
      · rw [if_pos c21] at H
        have c21b0 : (t246 != t253) = true := c21
        (try (have c21b1 : decide (t246 = t253) = false := by simpa using c21))
        (try (have c21b2 : (t246 == t253) = false := by simpa using c21))
        (try (have c21b3 : ¬ (t246 = t253) := by simpa using c21))
        clear c21
        (first | rw [c21b0] | (simp only [i64_w, i32_w]; rw [c21b0]) | skip)
        have H' := Aside0.mk H
        clear H
        go_wp2
        go_meet
        case rel => exact ⟨_, (true), (by first | rfl | (simp; done) | (simp [*]; done)), H', ⟨by first | omega | exact Nat.le_refl _⟩, ⟨by (with_reducible repeat (first | refine blk_drewN ?_ _ | refine blk_drew ?_ | refine blk_alloc ?_ _)); refine blk_far ?_ NB240_254.out _; (with_reducible repeat (first | refine blk_drewN ?_ _ | refine blk_drew ?_ | refine blk_alloc ?_ _)); refine blk_far ?_ NB240_254.out _; (with_reducible repeat (first | refine blk_drewN ?_ _ | refine blk_drew ?_ | refine blk_alloc ?_ _)); refine blk_far ?_ NB240_254.out _; (with_reducible repeat (first | refine blk_drewN ?_ _ | refine blk_drew ?_ | refine blk_alloc ?_ _)); refine blk_far ?_ NB240_254.out _; (with_reducible repeat (first | refine blk_drewN ?_ _ | refine blk_drew ?_ | refine blk_alloc ?_ _)); refine blk_far ?_ NB240_254.out _; (with_reducible repeat (first | refine blk_drewN ?_ _ | refine blk_drew ?_ | refine blk_alloc ?_ _)); exact BK240.out⟩, ⟨by (with_reducible repeat (first | refine blk_drewN ?_ _ | refine blk_drew ?_ | refine blk_alloc ?_ _)); refine blk_far ?_ NB247_254.out _; (with_reducible repeat (first | refine blk_drewN ?_ _ | refine blk_drew ?_ | refine blk_alloc ?_ _)); refine blk_far ?_ NB247_254.out _; (with_reducible repeat (first | refine blk_drewN ?_ _ | refine blk_drew ?_ | refine blk_alloc ?_ _)); refine blk_far ?_ NB247_254.out _; (with_reducible repeat (first | refine blk_drewN ?_ _ | refine blk_drew ?_ | refine blk_alloc ?_ _)); refine blk_far ?_ NB247_254.out _; (with_reducible repeat (first | refine blk_drewN ?_ _ | refine blk_drew ?_ | refine blk_alloc ?_ _)); refine blk_far ?_ NB247_254.out _; (with_reducible repeat (first | refine blk_drewN ?_ _ | refine blk_drew ?_ | refine blk_alloc ?_ _)); exact BK247.out⟩, ⟨by (with_reducible repeat (first | refine blk_drewN ?_ _ | refine blk_drew ?_ | refine blk_alloc ?_ _)); refine blk_put (cs := #[.bool t248, .int .i64 t249, .int .i64 t250, .int .i64 t251, .int .i64 0]) ?_ 4 _ rfl; (with_reducible repeat (first | refine blk_drewN ?_ _ | refine blk_drew ?_ | refine blk_alloc ?_ _)); refine blk_put (cs := #[.bool t248, .int .i64 t249, .int .i64 t250, .int .i64 0, .int .i64 0]) ?_ 3 _ rfl; (with_reducible repeat (first | refine blk_drewN ?_ _ | refine blk_drew ?_ | refine blk_alloc ?_ _)); refine blk_put (cs := #[.bool t248, .int .i64 t249, .int .i64 0, .int .i64 0, .int .i64 0]) ?_ 2 _ rfl; (with_reducible repeat (first | refine blk_drewN ?_ _ | refine blk_drew ?_ | refine blk_alloc ?_ _)); refine blk_put (cs := #[.bool t248, .int .i64 0, .int .i64 0, .int .i64 0, .int .i64 0]) ?_ 1 _ rfl; (with_reducible repeat (first | refine blk_drewN ?_ _ | refine blk_drew ?_ | refine blk_alloc ?_ _)); refine blk_put (cs := #[.bool false, .int .i64 0, .int .i64 0, .int .i64 0, .int .i64 0]) ?_ 0 _ rfl; (with_reducible repeat (first | refine blk_drewN ?_ _ | refine blk_drew ?_ | refine blk_alloc ?_ _)); exact BK254.out⟩, ⟨by repeat (first | (with_reducible first | exact HB.out | apply below_alloc | apply pw_below_drewN | apply below_drew1 | refine below_set ?_ GE240.out | refine below_set ?_ GE247.out | refine below_set ?_ GE254.out) | exact HB.out)⟩⟩
      · rw [if_neg c21] at H
        have c21b0 : (t246 != t253) = false := by simpa using c21
        (try (have c21b1 : decide (t246 = t253) = true := by simpa using c21))
        (try (have c21b2 : (t246 == t253) = true := by simpa using c21))
        clear c21
        (first | rw [c21b0] | (simp only [i64_w, i32_w]; rw [c21b0]) | skip)
        have H' := Aside0.mk H
        clear H
        have hnb22 := NB247_240.out
        have hnc22 := NB240_247.out
        have hnb23 := NB247_254.out
        have hnc23 := NB254_247.out
        have hcz24_0 : w17.cell? ⟨gb247, 0, none⟩ = some (.bool t241) := (blk_cell BK247.out 0).trans rfl
        have hcz24_1 : w17.cell? ⟨gb247, 1, none⟩ = some (.int .i64 t242) := (blk_cell BK247.out 1).trans rfl
        have hcz24_2 : w17.cell? ⟨gb247, 2, none⟩ = some (.int .i64 t243) := (blk_cell BK247.out 2).trans rfl
        have hcz24_3 : w17.cell? ⟨gb247, 3, none⟩ = some (.int .i64 t244) := (blk_cell BK247.out 3).trans rfl
        have hcz24_4 : w17.cell? ⟨gb247, 4, none⟩ = some (.int .i64 t245) := (blk_cell BK247.out 4).trans rfl
        have hfz24_0 := blk_frozen BK247.out 0
        have hfz24_1 := blk_frozen BK247.out 1
        have hfz24_2 := blk_frozen BK247.out 2
        have hfz24_3 := blk_frozen BK247.out 3
        have hfz24_4 := blk_frozen BK247.out 4
        have hnb25 := NB254_240.out
        have hnc25 := NB240_254.out
        have hcz26_0 : w17.cell? ⟨gb254, 0, none⟩ = some (.bool false) := (blk_cell BK254.out 0).trans rfl
        have hcz26_1 : w17.cell? ⟨gb254, 1, none⟩ = some (.int .i64 0) := (blk_cell BK254.out 1).trans rfl
        have hcz26_2 : w17.cell? ⟨gb254, 2, none⟩ = some (.int .i64 0) := (blk_cell BK254.out 2).trans rfl
        have hcz26_3 : w17.cell? ⟨gb254, 3, none⟩ = some (.int .i64 0) := (blk_cell BK254.out 3).trans rfl
        have hcz26_4 : w17.cell? ⟨gb254, 4, none⟩ = some (.int .i64 0) := (blk_cell BK254.out 4).trans rfl
        have hfz26_0 := blk_frozen BK254.out 0
        have hfz26_1 := blk_frozen BK254.out 1
        have hfz26_2 := blk_frozen BK254.out 2
        have hfz26_3 := blk_frozen BK254.out 3
        have hfz26_4 := blk_frozen BK254.out 4
        go_wp2
        go_meet
        case rel => exact ⟨_, ((!(t241 == t248) || (!(t242 == t249) || (!(t243 == t250) || (!(t244 == t251) || (!(t245 == t252))))))), (by first | rfl | (simp; done) | (simp [*]; done)), H', ⟨by first | omega | exact Nat.le_refl _⟩, ⟨by (with_reducible repeat (first | refine blk_drewN ?_ _ | refine blk_drew ?_ | refine blk_alloc ?_ _)); refine blk_far ?_ NB240_254.out _; (with_reducible repeat (first | refine blk_drewN ?_ _ | refine blk_drew ?_ | refine blk_alloc ?_ _)); refine blk_far ?_ NB240_254.out _; (with_reducible repeat (first | refine blk_drewN ?_ _ | refine blk_drew ?_ | refine blk_alloc ?_ _)); refine blk_far ?_ NB240_254.out _; (with_reducible repeat (first | refine blk_drewN ?_ _ | refine blk_drew ?_ | refine blk_alloc ?_ _)); refine blk_far ?_ NB240_254.out _; (with_reducible repeat (first | refine blk_drewN ?_ _ | refine blk_drew ?_ | refine blk_alloc ?_ _)); refine blk_far ?_ NB240_254.out _; (with_reducible repeat (first | refine blk_drewN ?_ _ | refine blk_drew ?_ | refine blk_alloc ?_ _)); exact BK240.out⟩, ⟨by (with_reducible repeat (first | refine blk_drewN ?_ _ | refine blk_drew ?_ | refine blk_alloc ?_ _)); refine blk_far ?_ NB247_254.out _; (with_reducible repeat (first | refine blk_drewN ?_ _ | refine blk_drew ?_ | refine blk_alloc ?_ _)); refine blk_far ?_ NB247_254.out _; (with_reducible repeat (first | refine blk_drewN ?_ _ | refine blk_drew ?_ | refine blk_alloc ?_ _)); refine blk_far ?_ NB247_254.out _; (with_reducible repeat (first | refine blk_drewN ?_ _ | refine blk_drew ?_ | refine blk_alloc ?_ _)); refine blk_far ?_ NB247_254.out _; (with_reducible repeat (first | refine blk_drewN ?_ _ | refine blk_drew ?_ | refine blk_alloc ?_ _)); refine blk_far ?_ NB247_254.out _; (with_reducible repeat (first | refine blk_drewN ?_ _ | refine blk_drew ?_ | refine blk_alloc ?_ _)); exact BK247.out⟩, ⟨by (with_reducible repeat (first | refine blk_drewN ?_ _ | refine blk_drew ?_ | refine blk_alloc ?_ _)); refine blk_put (cs := #[.bool t248, .int .i64 t249, .int .i64 t250, .int .i64 t251, .int .i64 0]) ?_ 4 _ rfl; (with_reducible repeat (first | refine blk_drewN ?_ _ | refine blk_drew ?_ | refine blk_alloc ?_ _)); refine blk_put (cs := #[.bool t248, .int .i64 t249, .int .i64 t250, .int .i64 0, .int .i64 0]) ?_ 3 _ rfl; (with_reducible repeat (first | refine blk_drewN ?_ _ | refine blk_drew ?_ | refine blk_alloc ?_ _)); refine blk_put (cs := #[.bool t248, .int .i64 t249, .int .i64 0, .int .i64 0, .int .i64 0]) ?_ 2 _ rfl; (with_reducible repeat (first | refine blk_drewN ?_ _ | refine blk_drew ?_ | refine blk_alloc ?_ _)); refine blk_put (cs := #[.bool t248, .int .i64 0, .int .i64 0, .int .i64 0, .int .i64 0]) ?_ 1 _ rfl; (with_reducible repeat (first | refine blk_drewN ?_ _ | refine blk_drew ?_ | refine blk_alloc ?_ _)); refine blk_put (cs := #[.bool false, .int .i64 0, .int .i64 0, .int .i64 0, .int .i64 0]) ?_ 0 _ rfl; (with_reducible repeat (first | refine blk_drewN ?_ _ | refine blk_drew ?_ | refine blk_alloc ?_ _)); exact BK254.out⟩, ⟨by repeat (first | (with_reducible first | exact HB.out | apply below_alloc | apply pw_below_drewN | apply below_drew1 | refine below_set ?_ GE240.out | refine below_set ?_ GE247.out | refine below_set ?_ GE254.out) | exact HB.out)⟩⟩
    case rest =>
      clear HC7
      try clear c1
      try clear c2
      try clear p2
      try clear c3
      try clear c3b0
      try clear p6
      try clear c8
      try clear c13
      try clear c18
      try clear c19
      try clear c21
      try clear c21b0
      try clear c21b1
      try clear c21b2
      try clear c22
      try clear c23
      try clear c25
      try clear c26
      try clear hcz10_0
      try clear hcz10_1
      try clear hcz10_2
      try clear hcz10_3
      try clear hcz10_4
      try clear hcz14_0
      try clear hcz14_1
      try clear hcz14_2
      try clear hcz14_3
      try clear hcz14_4
      try clear hcz15_0
      try clear hcz15_1
      try clear hcz15_2
      try clear hcz15_3
      try clear hcz15_4
      try clear hcz20_0
      try clear hcz20_1
      try clear hcz20_2
      try clear hcz20_3
      try clear hcz20_4
      try clear hcz24_0
      try clear hcz24_1
      try clear hcz24_2
      try clear hcz24_3
      try clear hcz24_4
      try clear hcz26_0
      try clear hcz26_1
      try clear hcz26_2
      try clear hcz26_3
      try clear hcz26_4
      try clear hfz10_0
      try clear hfz10_1
      try clear hfz10_2
      try clear hfz10_3
      try clear hfz10_4
      try clear hfz14_0
      try clear hfz14_1
      try clear hfz14_2
      try clear hfz14_3
      try clear hfz14_4
      try clear hfz15_0
      try clear hfz15_1
      try clear hfz15_2
      try clear hfz15_3
      try clear hfz15_4
      try clear hfz20_0
      try clear hfz20_1
      try clear hfz20_2
      try clear hfz20_3
      try clear hfz20_4
      try clear hfz24_0
      try clear hfz24_1
      try clear hfz24_2
      try clear hfz24_3
      try clear hfz24_4
      try clear hfz26_0
      try clear hfz26_1
      try clear hfz26_2
      try clear hfz26_3
      try clear hfz26_4
      obtain ⟨kq, x56_6, rfl, HA, HJ6, BK240, BK247, BK254, HB⟩ := hcut
      cases kq with
      | zero => exact absurd HA.out (by simp [laws_FnRtt.j0])
      | succ kj6 =>
        have H := HA.out
        clear HA
        simp only [laws_FnRtt.j0] at H
        by_cases c27 : x56_6 = true
        · subst c27
          have H1 : (some false) = some r := by rw [if_pos rfl] at H; exact H
          clear H
          have H := H1
          clear H1
          obtain rfl := Option.some.inj H
          go_wp2
          go_ret
          exact ⟨by first | rfl | (simp [errW_none, errW_some] <;> rfl) | (simp [*, errW_none, errW_some] <;> rfl), by repeat (first | (with_reducible first | exact HB.out | apply below_alloc | apply pw_below_drewN | apply below_drew1 | refine below_set ?_ GE240.out | refine below_set ?_ GE247.out | refine below_set ?_ GE254.out) | exact HB.out)⟩
        · replace c27 := Bool.eq_false_iff.mpr c27
          subst c27
          have H1 : (if t246 = true then (if (wrap64 (t238 - t239)) ≥ t243 then (laws_FnRtt.j1 kj6 l1 t238 (wrap64 (t238 - t239)) t238 t233 t234 t235 t236 t237 t241 t242 t243 t244 t245) else (laws_FnRtt.j1 kj6 l1 t238 t238 t238 t233 t234 t235 t236 t237 t241 t242 t243 t244 t245)) else (laws_FnRtt.j5 kj6 l1)) = some r := by rw [if_neg (show ¬ (false = true) by decide)] at H; exact H
          clear H
          have H := H1
          clear H1
          have HC28 := Aside0.mk H
          clear H
          go_upto_if 57 with (fail)
          go_cut [] (fun wc => ∃ (kq : Nat), Aside0 (laws_FnRtt.j5 kq l1 = some r) ∧ Aside0 (kq ≤ kj6) ∧ Aside0 (wc.heap[gb240]? = some (.cells #[.bool t233, .int .i64 t234, .int .i64 t235, .int .i64 t236, .int .i64 t237] 39 (0, 0))) ∧ Aside0 (wc.heap[gb247]? = some (.cells #[.bool t241, .int .i64 t242, .int .i64 t243, .int .i64 t244, .int .i64 t245] 39 (0, 0))) ∧ Aside0 (wc.heap[gb254]? = some (.cells #[.bool t248, .int .i64 t249, .int .i64 t250, .int .i64 t251, .int .i64 t252] 39 (0, 0))) ∧ Aside0 (Below w.heap.size w wc))
          case first =>
            have H := HC28.out
            clear HC28
            by_cases c29 : t246 = true
            · subst c29
              have H1 : (if (wrap64 (t238 - t239)) ≥ t243 then (laws_FnRtt.j1 kj6 l1 t238 (wrap64 (t238 - t239)) t238 t233 t234 t235 t236 t237 t241 t242 t243 t244 t245) else (laws_FnRtt.j1 kj6 l1 t238 t238 t238 t233 t234 t235 t236 t237 t241 t242 t243 t244 t245)) = some r := by rw [if_pos rfl] at H; exact H
              clear H
              have H := H1
              clear H1
              have HC30 := Aside0.mk H
              clear H
              have hnb31 := NB247_240.out
              have hnc31 := NB240_247.out
              have hnb32 := NB247_254.out
              have hnc32 := NB254_247.out
              have hcz33_0 : wc.cell? ⟨gb247, 0, none⟩ = some (.bool t241) := (blk_cell BK247.out 0).trans rfl
              have hcz33_1 : wc.cell? ⟨gb247, 1, none⟩ = some (.int .i64 t242) := (blk_cell BK247.out 1).trans rfl
              have hcz33_2 : wc.cell? ⟨gb247, 2, none⟩ = some (.int .i64 t243) := (blk_cell BK247.out 2).trans rfl
              have hcz33_3 : wc.cell? ⟨gb247, 3, none⟩ = some (.int .i64 t244) := (blk_cell BK247.out 3).trans rfl
              have hcz33_4 : wc.cell? ⟨gb247, 4, none⟩ = some (.int .i64 t245) := (blk_cell BK247.out 4).trans rfl
              have hfz33_0 := blk_frozen BK247.out 0
              have hfz33_1 := blk_frozen BK247.out 1
              have hfz33_2 := blk_frozen BK247.out 2
              have hfz33_3 := blk_frozen BK247.out 3
              have hfz33_4 := blk_frozen BK247.out 4
              go_upto_if 65 with (fail)
              go_cut [12] (fun v12 wc => ∃ (kq : Nat) (x12_29 : Int), v12 = .int .i64 x12_29 ∧ Aside0 (laws_FnRtt.j1 kq l1 t238 x12_29 t238 t233 t234 t235 t236 t237 t241 t242 t243 t244 t245 = some r) ∧ Aside0 (kq ≤ kj6) ∧ Aside0 (wc.heap[gb240]? = some (.cells #[.bool t233, .int .i64 t234, .int .i64 t235, .int .i64 t236, .int .i64 t237] 39 (0, 0))) ∧ Aside0 (wc.heap[gb247]? = some (.cells #[.bool t241, .int .i64 t242, .int .i64 t243, .int .i64 t244, .int .i64 t245] 39 (0, 0))) ∧ Aside0 (wc.heap[gb254]? = some (.cells #[.bool t248, .int .i64 t249, .int .i64 t250, .int .i64 t251, .int .i64 t252] 39 (0, 0))) ∧ Aside0 (Below w.heap.size w wc))
              case first =>
                have H := HC30.out
                clear HC30
                by_cases c34 : (wrap64 (t238 - t239)) ≥ t243
                · rw [if_pos c34] at H
                  have c34b0 : decide (t243 ≤ (wrap64 (t238 - t239))) = true := decide_eq_true c34
                  clear c34
                  (first | rw [c34b0] | (simp only [i64_w, i32_w]; rw [c34b0]) | skip)
                  have H' := Aside0.mk H
                  clear H
                  go_wp2
                  go_meet
                  case rel => exact ⟨_, (wrap64 (t238 - t239)), (by first | rfl | (simp; done) | (simp [*]; done)), H', ⟨by have := HJ6.out; first | omega | exact Nat.le_refl _⟩, ⟨by (with_reducible repeat (first | refine blk_drewN ?_ _ | refine blk_drew ?_ | refine blk_alloc ?_ _)); exact BK240.out⟩, ⟨by (with_reducible repeat (first | refine blk_drewN ?_ _ | refine blk_drew ?_ | refine blk_alloc ?_ _)); exact BK247.out⟩, ⟨by (with_reducible repeat (first | refine blk_drewN ?_ _ | refine blk_drew ?_ | refine blk_alloc ?_ _)); exact BK254.out⟩, ⟨by repeat (first | (with_reducible first | exact HB.out | apply below_alloc | apply pw_below_drewN | apply below_drew1 | refine below_set ?_ GE240.out | refine below_set ?_ GE247.out | refine below_set ?_ GE254.out) | exact HB.out)⟩⟩
                · rw [if_neg c34] at H
                  have c34b0 : decide (t243 ≤ (wrap64 (t238 - t239))) = false := decide_eq_false c34
                  clear c34
                  (first | rw [c34b0] | (simp only [i64_w, i32_w]; rw [c34b0]) | skip)
                  have H' := Aside0.mk H
                  clear H
                  go_wp2
                  go_meet
                  case rel => exact ⟨_, (t238), (by first | rfl | (simp; done) | (simp [*]; done)), H', ⟨by have := HJ6.out; first | omega | exact Nat.le_refl _⟩, ⟨by (with_reducible repeat (first | refine blk_drewN ?_ _ | refine blk_drew ?_ | refine blk_alloc ?_ _)); exact BK240.out⟩, ⟨by (with_reducible repeat (first | refine blk_drewN ?_ _ | refine blk_drew ?_ | refine blk_alloc ?_ _)); exact BK247.out⟩, ⟨by (with_reducible repeat (first | refine blk_drewN ?_ _ | refine blk_drew ?_ | refine blk_alloc ?_ _)); exact BK254.out⟩, ⟨by repeat (first | (with_reducible first | exact HB.out | apply below_alloc | apply pw_below_drewN | apply below_drew1 | refine below_set ?_ GE240.out | refine below_set ?_ GE247.out | refine below_set ?_ GE254.out) | exact HB.out)⟩⟩
              case rest =>
                clear HC30
                try clear c1
                try clear c2
                try clear p2
                try clear c3
                try clear c3b0
                try clear p6
                try clear c8
                try clear c13
                try clear c18
                try clear c19
                try clear c21
                try clear c21b0
                try clear c21b1
                try clear c21b2
                try clear c22
                try clear c23
                try clear c25
                try clear c26
                try clear c27
                try clear c29
                try clear c31
                try clear c32
                try clear c34
                try clear c34b0
                try clear hcz10_0
                try clear hcz10_1
                try clear hcz10_2
                try clear hcz10_3
                try clear hcz10_4
                try clear hcz14_0
                try clear hcz14_1
                try clear hcz14_2
                try clear hcz14_3
                try clear hcz14_4
                try clear hcz15_0
                try clear hcz15_1
                try clear hcz15_2
                try clear hcz15_3
                try clear hcz15_4
                try clear hcz20_0
                try clear hcz20_1
                try clear hcz20_2
                try clear hcz20_3
                try clear hcz20_4
                try clear hcz24_0
                try clear hcz24_1
                try clear hcz24_2
                try clear hcz24_3
                try clear hcz24_4
                try clear hcz26_0
                try clear hcz26_1
                try clear hcz26_2
                try clear hcz26_3
                try clear hcz26_4
                try clear hcz33_0
                try clear hcz33_1
                try clear hcz33_2
                try clear hcz33_3
                try clear hcz33_4
                try clear hfz10_0
                try clear hfz10_1
                try clear hfz10_2
                try clear hfz10_3
                try clear hfz10_4
                try clear hfz14_0
                try clear hfz14_1
                try clear hfz14_2
                try clear hfz14_3
                try clear hfz14_4
                try clear hfz15_0
                try clear hfz15_1
                try clear hfz15_2
                try clear hfz15_3
                try clear hfz15_4
                try clear hfz20_0
                try clear hfz20_1
                try clear hfz20_2
                try clear hfz20_3
                try clear hfz20_4
                try clear hfz24_0
                try clear hfz24_1
                try clear hfz24_2
                try clear hfz24_3
                try clear hfz24_4
                try clear hfz26_0
                try clear hfz26_1
                try clear hfz26_2
                try clear hfz26_3
                try clear hfz26_4
                try clear hfz33_0
                try clear hfz33_1
                try clear hfz33_2
                try clear hfz33_3
                try clear hfz33_4
                try clear p2
                try clear p6
                obtain ⟨kq, x12_29, rfl, HA, HJ29, BK240, BK247, BK254, HB⟩ := hcut
                cases kq with
                | zero => exact absurd HA.out (by simp [laws_FnRtt.j1])
                | succ kj29 =>
                  have H := HA.out
                  clear HA
                  simp only [laws_FnRtt.j1] at H
                  have HC35 := Aside0.mk H
                  clear H
                  go_upto_region 13 with (fail)
                  go_cut [76] (fun v76 wc => ∃ (kq : Nat) (x76_34 : Bool), v76 = .bool x76_34 ∧ Aside0 (laws_FnRtt.j2 kq l1 t238 x12_29 t238 x76_34 t233 t234 t235 t236 t237 t241 t242 t243 t244 t245 = some r) ∧ Aside0 (kq ≤ kj29) ∧ Aside0 (wc.heap[gb240]? = some (.cells #[.bool t233, .int .i64 t234, .int .i64 t235, .int .i64 t236, .int .i64 t237] 39 (0, 0))) ∧ Aside0 (wc.heap[gb247]? = some (.cells #[.bool t241, .int .i64 t242, .int .i64 t243, .int .i64 t244, .int .i64 t245] 39 (0, 0))) ∧ Aside0 (wc.heap[gb254]? = some (.cells #[.bool t248, .int .i64 t249, .int .i64 t250, .int .i64 t251, .int .i64 t252] 39 (0, 0))) ∧ Aside0 (Below w.heap.size w wc))
                  case first =>
                    have H := HC35.out
                    clear HC35
                    by_cases c36 : t233 = true
                    · subst c36
                      have H1 : (laws_FnRtt.j2 kj29 l1 t238 x12_29 t238 (decide (t236 < x12_29)) true t234 t235 t236 t237 t241 t242 t243 t244 t245) = some r := by rw [if_pos rfl] at H; exact H
                      clear H
                      have H := H1
                      clear H1
                      have H' := Aside0.mk H
                      clear H
                      have hnb37 := NB240_247.out
                      have hnc37 := NB247_240.out
                      have hnb38 := NB240_254.out
                      have hnc38 := NB254_240.out
                      have hcz39_0 : wc.cell? ⟨gb240, 0, none⟩ = some (.bool true) := (blk_cell BK240.out 0).trans rfl
                      have hcz39_1 : wc.cell? ⟨gb240, 1, none⟩ = some (.int .i64 t234) := (blk_cell BK240.out 1).trans rfl
                      have hcz39_2 : wc.cell? ⟨gb240, 2, none⟩ = some (.int .i64 t235) := (blk_cell BK240.out 2).trans rfl
                      have hcz39_3 : wc.cell? ⟨gb240, 3, none⟩ = some (.int .i64 t236) := (blk_cell BK240.out 3).trans rfl
                      have hcz39_4 : wc.cell? ⟨gb240, 4, none⟩ = some (.int .i64 t237) := (blk_cell BK240.out 4).trans rfl
                      have hfz39_0 := blk_frozen BK240.out 0
                      have hfz39_1 := blk_frozen BK240.out 1
                      have hfz39_2 := blk_frozen BK240.out 2
                      have hfz39_3 := blk_frozen BK240.out 3
                      have hfz39_4 := blk_frozen BK240.out 4
                      go_wp2
                      go_meet
                      case rel => exact ⟨_, (decide (t236 < x12_29)), (by first | rfl | (simp; done) | (simp [*]; done)), H', ⟨by have := HJ6.out; have := HJ29.out; first | omega | exact Nat.le_refl _⟩, ⟨by (with_reducible repeat (first | refine blk_drewN ?_ _ | refine blk_drew ?_ | refine blk_alloc ?_ _)); exact BK240.out⟩, ⟨by (with_reducible repeat (first | refine blk_drewN ?_ _ | refine blk_drew ?_ | refine blk_alloc ?_ _)); exact BK247.out⟩, ⟨by (with_reducible repeat (first | refine blk_drewN ?_ _ | refine blk_drew ?_ | refine blk_alloc ?_ _)); exact BK254.out⟩, ⟨by repeat (first | (with_reducible first | exact HB.out | apply below_alloc | apply pw_below_drewN | apply below_drew1 | refine below_set ?_ GE240.out | refine below_set ?_ GE247.out | refine below_set ?_ GE254.out) | exact HB.out)⟩⟩
                    · replace c36 := Bool.eq_false_iff.mpr c36
                      subst c36
                      have H1 : (laws_FnRtt.j2 kj29 l1 t238 x12_29 t238 false false t234 t235 t236 t237 t241 t242 t243 t244 t245) = some r := by rw [if_neg (show ¬ (false = true) by decide)] at H; exact H
                      clear H
                      have H := H1
                      clear H1
                      have H' := Aside0.mk H
                      clear H
                      have hnb40 := NB240_247.out
                      have hnc40 := NB247_240.out
                      have hnb41 := NB240_254.out
                      have hnc41 := NB254_240.out
                      have hcz42_0 : wc.cell? ⟨gb240, 0, none⟩ = some (.bool false) := (blk_cell BK240.out 0).trans rfl
                      have hcz42_1 : wc.cell? ⟨gb240, 1, none⟩ = some (.int .i64 t234) := (blk_cell BK240.out 1).trans rfl
                      have hcz42_2 : wc.cell? ⟨gb240, 2, none⟩ = some (.int .i64 t235) := (blk_cell BK240.out 2).trans rfl
                      have hcz42_3 : wc.cell? ⟨gb240, 3, none⟩ = some (.int .i64 t236) := (blk_cell BK240.out 3).trans rfl
                      have hcz42_4 : wc.cell? ⟨gb240, 4, none⟩ = some (.int .i64 t237) := (blk_cell BK240.out 4).trans rfl
                      have hfz42_0 := blk_frozen BK240.out 0
                      have hfz42_1 := blk_frozen BK240.out 1
                      have hfz42_2 := blk_frozen BK240.out 2
                      have hfz42_3 := blk_frozen BK240.out 3
                      have hfz42_4 := blk_frozen BK240.out 4
                      go_wp2
                      go_meet
                      case rel => exact ⟨_, (false), (by first | rfl | (simp; done) | (simp [*]; done)), H', ⟨by have := HJ6.out; have := HJ29.out; first | omega | exact Nat.le_refl _⟩, ⟨by (with_reducible repeat (first | refine blk_drewN ?_ _ | refine blk_drew ?_ | refine blk_alloc ?_ _)); exact BK240.out⟩, ⟨by (with_reducible repeat (first | refine blk_drewN ?_ _ | refine blk_drew ?_ | refine blk_alloc ?_ _)); exact BK247.out⟩, ⟨by (with_reducible repeat (first | refine blk_drewN ?_ _ | refine blk_drew ?_ | refine blk_alloc ?_ _)); exact BK254.out⟩, ⟨by repeat (first | (with_reducible first | exact HB.out | apply below_alloc | apply pw_below_drewN | apply below_drew1 | refine below_set ?_ GE240.out | refine below_set ?_ GE247.out | refine below_set ?_ GE254.out) | exact HB.out)⟩⟩
                  case rest =>
                    clear HC35
                    try clear c1
                    try clear c2
                    try clear p2
                    try clear c3
                    try clear c3b0
                    try clear c4
                    try clear p6
                    try clear c8
                    try clear c13
                    try clear c18
                    try clear c19
                    try clear c21
                    try clear c21b0
                    try clear c21b1
                    try clear c21b2
                    try clear c22
                    try clear c23
                    try clear c25
                    try clear c26
                    try clear c27
                    try clear c29
                    try clear c31
                    try clear c32
                    try clear c34
                    try clear c34b0
                    try clear c36
                    try clear c37
                    try clear c38
                    try clear c40
                    try clear c41
                    try clear hcz10_0
                    try clear hcz10_1
                    try clear hcz10_2
                    try clear hcz10_3
                    try clear hcz10_4
                    try clear hcz14_0
                    try clear hcz14_1
                    try clear hcz14_2
                    try clear hcz14_3
                    try clear hcz14_4
                    try clear hcz15_0
                    try clear hcz15_1
                    try clear hcz15_2
                    try clear hcz15_3
                    try clear hcz15_4
                    try clear hcz20_0
                    try clear hcz20_1
                    try clear hcz20_2
                    try clear hcz20_3
                    try clear hcz20_4
                    try clear hcz24_0
                    try clear hcz24_1
                    try clear hcz24_2
                    try clear hcz24_3
                    try clear hcz24_4
                    try clear hcz26_0
                    try clear hcz26_1
                    try clear hcz26_2
                    try clear hcz26_3
                    try clear hcz26_4
                    try clear hcz33_0
                    try clear hcz33_1
                    try clear hcz33_2
                    try clear hcz33_3
                    try clear hcz33_4
                    try clear hcz39_0
                    try clear hcz39_1
                    try clear hcz39_2
                    try clear hcz39_3
                    try clear hcz39_4
                    try clear hcz42_0
                    try clear hcz42_1
                    try clear hcz42_2
                    try clear hcz42_3
                    try clear hcz42_4
                    try clear hfz10_0
                    try clear hfz10_1
                    try clear hfz10_2
                    try clear hfz10_3
                    try clear hfz10_4
                    try clear hfz14_0
                    try clear hfz14_1
                    try clear hfz14_2
                    try clear hfz14_3
                    try clear hfz14_4
                    try clear hfz15_0
                    try clear hfz15_1
                    try clear hfz15_2
                    try clear hfz15_3
                    try clear hfz15_4
                    try clear hfz20_0
                    try clear hfz20_1
                    try clear hfz20_2
                    try clear hfz20_3
                    try clear hfz20_4
                    try clear hfz24_0
                    try clear hfz24_1
                    try clear hfz24_2
                    try clear hfz24_3
                    try clear hfz24_4
                    try clear hfz26_0
                    try clear hfz26_1
                    try clear hfz26_2
                    try clear hfz26_3
                    try clear hfz26_4
                    try clear hfz33_0
                    try clear hfz33_1
                    try clear hfz33_2
                    try clear hfz33_3
                    try clear hfz33_4
                    try clear hfz39_0
                    try clear hfz39_1
                    try clear hfz39_2
                    try clear hfz39_3
                    try clear hfz39_4
                    try clear hfz42_0
                    try clear hfz42_1
                    try clear hfz42_2
                    try clear hfz42_3
                    try clear hfz42_4
                    try clear p2
                    try clear p6
                    obtain ⟨kq, x76_34, rfl, HA, HJ34, BK240, BK247, BK254, HB⟩ := hcut
                    cases kq with
                    | zero => exact absurd HA.out (by simp [laws_FnRtt.j2])
                    | succ kj34 =>
                      have H := HA.out
                      clear HA
                      simp only [laws_FnRtt.j2] at H
                      have HC43 := Aside0.mk H
                      clear H
                      go_upto_if 76 with (fail)
                      go_cut [12] (fun v12 wc => ∃ (kq : Nat) (x12_42 : Int), v12 = .int .i64 x12_42 ∧ Aside0 (laws_FnRtt.j3 kq l1 t238 x12_42 t238 t233 t234 t235 t236 t237 t241 t242 t243 t244 t245 = some r) ∧ Aside0 (kq ≤ kj34) ∧ Aside0 (wc.heap[gb240]? = some (.cells #[.bool t233, .int .i64 t234, .int .i64 t235, .int .i64 t236, .int .i64 t237] 39 (0, 0))) ∧ Aside0 (wc.heap[gb247]? = some (.cells #[.bool t241, .int .i64 t242, .int .i64 t243, .int .i64 t244, .int .i64 t245] 39 (0, 0))) ∧ Aside0 (wc.heap[gb254]? = some (.cells #[.bool t248, .int .i64 t249, .int .i64 t250, .int .i64 t251, .int .i64 t252] 39 (0, 0))) ∧ Aside0 (Below w.heap.size w wc))
                      case first =>
                        have H := HC43.out
                        clear HC43
                        by_cases c44 : x76_34 = true
                        · subst c44
                          have H1 : (laws_FnRtt.j3 kj34 l1 t238 t236 t238 t233 t234 t235 t236 t237 t241 t242 t243 t244 t245) = some r := by rw [if_pos rfl] at H; exact H
                          clear H
                          have H := H1
                          clear H1
                          have H' := Aside0.mk H
                          clear H
                          have hnb45 := NB240_247.out
                          have hnc45 := NB247_240.out
                          have hnb46 := NB240_254.out
                          have hnc46 := NB254_240.out
                          have hcz47_0 : wc.cell? ⟨gb240, 0, none⟩ = some (.bool t233) := (blk_cell BK240.out 0).trans rfl
                          have hcz47_1 : wc.cell? ⟨gb240, 1, none⟩ = some (.int .i64 t234) := (blk_cell BK240.out 1).trans rfl
                          have hcz47_2 : wc.cell? ⟨gb240, 2, none⟩ = some (.int .i64 t235) := (blk_cell BK240.out 2).trans rfl
                          have hcz47_3 : wc.cell? ⟨gb240, 3, none⟩ = some (.int .i64 t236) := (blk_cell BK240.out 3).trans rfl
                          have hcz47_4 : wc.cell? ⟨gb240, 4, none⟩ = some (.int .i64 t237) := (blk_cell BK240.out 4).trans rfl
                          have hfz47_0 := blk_frozen BK240.out 0
                          have hfz47_1 := blk_frozen BK240.out 1
                          have hfz47_2 := blk_frozen BK240.out 2
                          have hfz47_3 := blk_frozen BK240.out 3
                          have hfz47_4 := blk_frozen BK240.out 4
                          go_wp2
                          go_meet
                          case rel => exact ⟨_, (t236), (by first | rfl | (simp; done) | (simp [*]; done)), H', ⟨by have := HJ6.out; have := HJ29.out; have := HJ34.out; first | omega | exact Nat.le_refl _⟩, ⟨by (with_reducible repeat (first | refine blk_drewN ?_ _ | refine blk_drew ?_ | refine blk_alloc ?_ _)); exact BK240.out⟩, ⟨by (with_reducible repeat (first | refine blk_drewN ?_ _ | refine blk_drew ?_ | refine blk_alloc ?_ _)); exact BK247.out⟩, ⟨by (with_reducible repeat (first | refine blk_drewN ?_ _ | refine blk_drew ?_ | refine blk_alloc ?_ _)); exact BK254.out⟩, ⟨by repeat (first | (with_reducible first | exact HB.out | apply below_alloc | apply pw_below_drewN | apply below_drew1 | refine below_set ?_ GE240.out | refine below_set ?_ GE247.out | refine below_set ?_ GE254.out) | exact HB.out)⟩⟩
                        · replace c44 := Bool.eq_false_iff.mpr c44
                          subst c44
                          have H1 : (laws_FnRtt.j3 kj34 l1 t238 x12_29 t238 t233 t234 t235 t236 t237 t241 t242 t243 t244 t245) = some r := by rw [if_neg (show ¬ (false = true) by decide)] at H; exact H
                          clear H
                          have H := H1
                          clear H1
                          have H' := Aside0.mk H
                          clear H
                          go_wp2
                          go_meet
                          case rel => exact ⟨_, (x12_29), (by first | rfl | (simp; done) | (simp [*]; done)), H', ⟨by have := HJ6.out; have := HJ29.out; have := HJ34.out; first | omega | exact Nat.le_refl _⟩, ⟨by (with_reducible repeat (first | refine blk_drewN ?_ _ | refine blk_drew ?_ | refine blk_alloc ?_ _)); exact BK240.out⟩, ⟨by (with_reducible repeat (first | refine blk_drewN ?_ _ | refine blk_drew ?_ | refine blk_alloc ?_ _)); exact BK247.out⟩, ⟨by (with_reducible repeat (first | refine blk_drewN ?_ _ | refine blk_drew ?_ | refine blk_alloc ?_ _)); exact BK254.out⟩, ⟨by repeat (first | (with_reducible first | exact HB.out | apply below_alloc | apply pw_below_drewN | apply below_drew1 | refine below_set ?_ GE240.out | refine below_set ?_ GE247.out | refine below_set ?_ GE254.out) | exact HB.out)⟩⟩
                      case rest =>
                        clear HC43
                        try clear c1
                        try clear c2
                        try clear p2
                        try clear c3
                        try clear c3b0
                        try clear c4
                        try clear p6
                        try clear c8
                        try clear c13
                        try clear c18
                        try clear c19
                        try clear c21
                        try clear c21b0
                        try clear c21b1
                        try clear c21b2
                        try clear c22
                        try clear c23
                        try clear c25
                        try clear c26
                        try clear c27
                        try clear c29
                        try clear c31
                        try clear c32
                        try clear c34
                        try clear c34b0
                        try clear c36
                        try clear c37
                        try clear c38
                        try clear c40
                        try clear c41
                        try clear c44
                        try clear c45
                        try clear c46
                        try clear hcz10_0
                        try clear hcz10_1
                        try clear hcz10_2
                        try clear hcz10_3
                        try clear hcz10_4
                        try clear hcz14_0
                        try clear hcz14_1
                        try clear hcz14_2
                        try clear hcz14_3
                        try clear hcz14_4
                        try clear hcz15_0
                        try clear hcz15_1
                        try clear hcz15_2
                        try clear hcz15_3
                        try clear hcz15_4
                        try clear hcz20_0
                        try clear hcz20_1
                        try clear hcz20_2
                        try clear hcz20_3
                        try clear hcz20_4
                        try clear hcz24_0
                        try clear hcz24_1
                        try clear hcz24_2
                        try clear hcz24_3
                        try clear hcz24_4
                        try clear hcz26_0
                        try clear hcz26_1
                        try clear hcz26_2
                        try clear hcz26_3
                        try clear hcz26_4
                        try clear hcz33_0
                        try clear hcz33_1
                        try clear hcz33_2
                        try clear hcz33_3
                        try clear hcz33_4
                        try clear hcz39_0
                        try clear hcz39_1
                        try clear hcz39_2
                        try clear hcz39_3
                        try clear hcz39_4
                        try clear hcz42_0
                        try clear hcz42_1
                        try clear hcz42_2
                        try clear hcz42_3
                        try clear hcz42_4
                        try clear hcz47_0
                        try clear hcz47_1
                        try clear hcz47_2
                        try clear hcz47_3
                        try clear hcz47_4
                        try clear hfz10_0
                        try clear hfz10_1
                        try clear hfz10_2
                        try clear hfz10_3
                        try clear hfz10_4
                        try clear hfz14_0
                        try clear hfz14_1
                        try clear hfz14_2
                        try clear hfz14_3
                        try clear hfz14_4
                        try clear hfz15_0
                        try clear hfz15_1
                        try clear hfz15_2
                        try clear hfz15_3
                        try clear hfz15_4
                        try clear hfz20_0
                        try clear hfz20_1
                        try clear hfz20_2
                        try clear hfz20_3
                        try clear hfz20_4
                        try clear hfz24_0
                        try clear hfz24_1
                        try clear hfz24_2
                        try clear hfz24_3
                        try clear hfz24_4
                        try clear hfz26_0
                        try clear hfz26_1
                        try clear hfz26_2
                        try clear hfz26_3
                        try clear hfz26_4
                        try clear hfz33_0
                        try clear hfz33_1
                        try clear hfz33_2
                        try clear hfz33_3
                        try clear hfz33_4
                        try clear hfz39_0
                        try clear hfz39_1
                        try clear hfz39_2
                        try clear hfz39_3
                        try clear hfz39_4
                        try clear hfz42_0
                        try clear hfz42_1
                        try clear hfz42_2
                        try clear hfz42_3
                        try clear hfz42_4
                        try clear hfz47_0
                        try clear hfz47_1
                        try clear hfz47_2
                        try clear hfz47_3
                        try clear hfz47_4
                        try clear p2
                        try clear p6
                        obtain ⟨kq, x12_42, rfl, HA, HJ42, BK240, BK247, BK254, HB⟩ := hcut
                        cases kq with
                        | zero => exact absurd HA.out (by simp [laws_FnRtt.j3])
                        | succ kj42 =>
                          have H := HA.out
                          clear HA
                          simp only [laws_FnRtt.j3] at H
                          have HC48 := Aside0.mk H
                          clear H
                          go_upto_region 15 with (fail)
                          go_cut [86] (fun v86 wc => ∃ (kq : Nat) (x86_47 : Bool), v86 = .bool x86_47 ∧ Aside0 (laws_FnRtt.j4 kq l1 t238 x12_42 t238 x86_47 t233 t234 t235 t236 t237 t241 t242 t243 t244 t245 = some r) ∧ Aside0 (kq ≤ kj42) ∧ Aside0 (wc.heap[gb240]? = some (.cells #[.bool t233, .int .i64 t234, .int .i64 t235, .int .i64 t236, .int .i64 t237] 39 (0, 0))) ∧ Aside0 (wc.heap[gb247]? = some (.cells #[.bool t241, .int .i64 t242, .int .i64 t243, .int .i64 t244, .int .i64 t245] 39 (0, 0))) ∧ Aside0 (wc.heap[gb254]? = some (.cells #[.bool t248, .int .i64 t249, .int .i64 t250, .int .i64 t251, .int .i64 t252] 39 (0, 0))) ∧ Aside0 (Below w.heap.size w wc))
                          case first =>
                            have H := HC48.out
                            clear HC48
                            by_cases c49 : t233 = true
                            · subst c49
                              have H1 : (laws_FnRtt.j4 kj42 l1 t238 x12_42 t238 (decide (t236 > t238)) true t234 t235 t236 t237 t241 t242 t243 t244 t245) = some r := by rw [if_pos rfl] at H; exact H
                              clear H
                              have H := H1
                              clear H1
                              have H' := Aside0.mk H
                              clear H
                              have hnb50 := NB240_247.out
                              have hnc50 := NB247_240.out
                              have hnb51 := NB240_254.out
                              have hnc51 := NB254_240.out
                              have hcz52_0 : wc.cell? ⟨gb240, 0, none⟩ = some (.bool true) := (blk_cell BK240.out 0).trans rfl
                              have hcz52_1 : wc.cell? ⟨gb240, 1, none⟩ = some (.int .i64 t234) := (blk_cell BK240.out 1).trans rfl
                              have hcz52_2 : wc.cell? ⟨gb240, 2, none⟩ = some (.int .i64 t235) := (blk_cell BK240.out 2).trans rfl
                              have hcz52_3 : wc.cell? ⟨gb240, 3, none⟩ = some (.int .i64 t236) := (blk_cell BK240.out 3).trans rfl
                              have hcz52_4 : wc.cell? ⟨gb240, 4, none⟩ = some (.int .i64 t237) := (blk_cell BK240.out 4).trans rfl
                              have hfz52_0 := blk_frozen BK240.out 0
                              have hfz52_1 := blk_frozen BK240.out 1
                              have hfz52_2 := blk_frozen BK240.out 2
                              have hfz52_3 := blk_frozen BK240.out 3
                              have hfz52_4 := blk_frozen BK240.out 4
                              go_wp2
                              go_meet
                              case rel => exact ⟨_, (decide (t236 > t238)), (by first | rfl | (simp; done) | (simp [*]; done)), H', ⟨by have := HJ6.out; have := HJ29.out; have := HJ34.out; have := HJ42.out; first | omega | exact Nat.le_refl _⟩, ⟨by (with_reducible repeat (first | refine blk_drewN ?_ _ | refine blk_drew ?_ | refine blk_alloc ?_ _)); exact BK240.out⟩, ⟨by (with_reducible repeat (first | refine blk_drewN ?_ _ | refine blk_drew ?_ | refine blk_alloc ?_ _)); exact BK247.out⟩, ⟨by (with_reducible repeat (first | refine blk_drewN ?_ _ | refine blk_drew ?_ | refine blk_alloc ?_ _)); exact BK254.out⟩, ⟨by repeat (first | (with_reducible first | exact HB.out | apply below_alloc | apply pw_below_drewN | apply below_drew1 | refine below_set ?_ GE240.out | refine below_set ?_ GE247.out | refine below_set ?_ GE254.out) | exact HB.out)⟩⟩
                            · replace c49 := Bool.eq_false_iff.mpr c49
                              subst c49
                              have H1 : (laws_FnRtt.j4 kj42 l1 t238 x12_42 t238 false false t234 t235 t236 t237 t241 t242 t243 t244 t245) = some r := by rw [if_neg (show ¬ (false = true) by decide)] at H; exact H
                              clear H
                              have H := H1
                              clear H1
                              have H' := Aside0.mk H
                              clear H
                              have hnb53 := NB240_247.out
                              have hnc53 := NB247_240.out
                              have hnb54 := NB240_254.out
                              have hnc54 := NB254_240.out
                              have hcz55_0 : wc.cell? ⟨gb240, 0, none⟩ = some (.bool false) := (blk_cell BK240.out 0).trans rfl
                              have hcz55_1 : wc.cell? ⟨gb240, 1, none⟩ = some (.int .i64 t234) := (blk_cell BK240.out 1).trans rfl
                              have hcz55_2 : wc.cell? ⟨gb240, 2, none⟩ = some (.int .i64 t235) := (blk_cell BK240.out 2).trans rfl
                              have hcz55_3 : wc.cell? ⟨gb240, 3, none⟩ = some (.int .i64 t236) := (blk_cell BK240.out 3).trans rfl
                              have hcz55_4 : wc.cell? ⟨gb240, 4, none⟩ = some (.int .i64 t237) := (blk_cell BK240.out 4).trans rfl
                              have hfz55_0 := blk_frozen BK240.out 0
                              have hfz55_1 := blk_frozen BK240.out 1
                              have hfz55_2 := blk_frozen BK240.out 2
                              have hfz55_3 := blk_frozen BK240.out 3
                              have hfz55_4 := blk_frozen BK240.out 4
                              go_wp2
                              go_meet
                              case rel => exact ⟨_, (false), (by first | rfl | (simp; done) | (simp [*]; done)), H', ⟨by have := HJ6.out; have := HJ29.out; have := HJ34.out; have := HJ42.out; first | omega | exact Nat.le_refl _⟩, ⟨by (with_reducible repeat (first | refine blk_drewN ?_ _ | refine blk_drew ?_ | refine blk_alloc ?_ _)); exact BK240.out⟩, ⟨by (with_reducible repeat (first | refine blk_drewN ?_ _ | refine blk_drew ?_ | refine blk_alloc ?_ _)); exact BK247.out⟩, ⟨by (with_reducible repeat (first | refine blk_drewN ?_ _ | refine blk_drew ?_ | refine blk_alloc ?_ _)); exact BK254.out⟩, ⟨by repeat (first | (with_reducible first | exact HB.out | apply below_alloc | apply pw_below_drewN | apply below_drew1 | refine below_set ?_ GE240.out | refine below_set ?_ GE247.out | refine below_set ?_ GE254.out) | exact HB.out)⟩⟩
                          case rest =>
                            clear HC48
                            try clear c1
                            try clear c2
                            try clear p2
                            try clear c3
                            try clear c3b0
                            try clear c4
                            try clear c5
                            try clear p6
                            try clear c8
                            try clear c13
                            try clear c18
                            try clear c19
                            try clear c21
                            try clear c21b0
                            try clear c21b1
                            try clear c21b2
                            try clear c22
                            try clear c23
                            try clear c25
                            try clear c26
                            try clear c27
                            try clear c29
                            try clear c31
                            try clear c32
                            try clear c34
                            try clear c34b0
                            try clear c36
                            try clear c37
                            try clear c38
                            try clear c40
                            try clear c41
                            try clear c44
                            try clear c45
                            try clear c46
                            try clear c49
                            try clear c50
                            try clear c51
                            try clear c53
                            try clear c54
                            try clear hcz10_0
                            try clear hcz10_1
                            try clear hcz10_2
                            try clear hcz10_3
                            try clear hcz10_4
                            try clear hcz14_0
                            try clear hcz14_1
                            try clear hcz14_2
                            try clear hcz14_3
                            try clear hcz14_4
                            try clear hcz15_0
                            try clear hcz15_1
                            try clear hcz15_2
                            try clear hcz15_3
                            try clear hcz15_4
                            try clear hcz20_0
                            try clear hcz20_1
                            try clear hcz20_2
                            try clear hcz20_3
                            try clear hcz20_4
                            try clear hcz24_0
                            try clear hcz24_1
                            try clear hcz24_2
                            try clear hcz24_3
                            try clear hcz24_4
                            try clear hcz26_0
                            try clear hcz26_1
                            try clear hcz26_2
                            try clear hcz26_3
                            try clear hcz26_4
                            try clear hcz33_0
                            try clear hcz33_1
                            try clear hcz33_2
                            try clear hcz33_3
                            try clear hcz33_4
                            try clear hcz39_0
                            try clear hcz39_1
                            try clear hcz39_2
                            try clear hcz39_3
                            try clear hcz39_4
                            try clear hcz42_0
                            try clear hcz42_1
                            try clear hcz42_2
                            try clear hcz42_3
                            try clear hcz42_4
                            try clear hcz47_0
                            try clear hcz47_1
                            try clear hcz47_2
                            try clear hcz47_3
                            try clear hcz47_4
                            try clear hcz52_0
                            try clear hcz52_1
                            try clear hcz52_2
                            try clear hcz52_3
                            try clear hcz52_4
                            try clear hcz55_0
                            try clear hcz55_1
                            try clear hcz55_2
                            try clear hcz55_3
                            try clear hcz55_4
                            try clear hfz10_0
                            try clear hfz10_1
                            try clear hfz10_2
                            try clear hfz10_3
                            try clear hfz10_4
                            try clear hfz14_0
                            try clear hfz14_1
                            try clear hfz14_2
                            try clear hfz14_3
                            try clear hfz14_4
                            try clear hfz15_0
                            try clear hfz15_1
                            try clear hfz15_2
                            try clear hfz15_3
                            try clear hfz15_4
                            try clear hfz20_0
                            try clear hfz20_1
                            try clear hfz20_2
                            try clear hfz20_3
                            try clear hfz20_4
                            try clear hfz24_0
                            try clear hfz24_1
                            try clear hfz24_2
                            try clear hfz24_3
                            try clear hfz24_4
                            try clear hfz26_0
                            try clear hfz26_1
                            try clear hfz26_2
                            try clear hfz26_3
                            try clear hfz26_4
                            try clear hfz33_0
                            try clear hfz33_1
                            try clear hfz33_2
                            try clear hfz33_3
                            try clear hfz33_4
                            try clear hfz39_0
                            try clear hfz39_1
                            try clear hfz39_2
                            try clear hfz39_3
                            try clear hfz39_4
                            try clear hfz42_0
                            try clear hfz42_1
                            try clear hfz42_2
                            try clear hfz42_3
                            try clear hfz42_4
                            try clear hfz47_0
                            try clear hfz47_1
                            try clear hfz47_2
                            try clear hfz47_3
                            try clear hfz47_4
                            try clear hfz52_0
                            try clear hfz52_1
                            try clear hfz52_2
                            try clear hfz52_3
                            try clear hfz52_4
                            try clear hfz55_0
                            try clear hfz55_1
                            try clear hfz55_2
                            try clear hfz55_3
                            try clear hfz55_4
                            try clear p2
                            try clear p6
                            obtain ⟨kq, x86_47, rfl, HA, HJ47, BK240, BK247, BK254, HB⟩ := hcut
                            cases kq with
                            | zero => exact absurd HA.out (by simp [laws_FnRtt.j4])
                            | succ kj47 =>
                              have H := HA.out
                              clear HA
                              simp only [laws_FnRtt.j4] at H
                              by_cases c56 : x86_47 = true
                              · subst c56
                                have H1 : (if t241 = true then (if t242 = t238 then (if t243 > t238 then (some false) else (if t244 < x12_42 then (some false) else (if t244 > t236 then (some false) else (laws_FnRtt.j5 kj47 l1)))) else (some false)) else (some false)) = some r := by rw [if_pos rfl] at H; exact H
                                clear H
                                have H := H1
                                clear H1
                                by_cases c57 : t241 = true
                                · subst c57
                                  have H1 : (if t242 = t238 then (if t243 > t238 then (some false) else (if t244 < x12_42 then (some false) else (if t244 > t236 then (some false) else (laws_FnRtt.j5 kj47 l1)))) else (some false)) = some r := by rw [if_pos rfl] at H; exact H
                                  clear H
                                  have H := H1
                                  clear H1
                                  by_cases c58 : t242 = t238
                                  · rw [if_pos c58] at H
                                    have c58b0 : (t242 == t238) = true := beq_iff_eq.mpr c58
                                    have c58b1 : (t242 != t238) = false := bne_eq_false_iff_eq.mpr c58
                                    clear c58
                                    by_cases c59 : t243 > t238
                                    · rw [if_pos c59] at H
                                      have c59b0 : decide (t238 < t243) = true := decide_eq_true c59
                                      clear c59
                                      obtain rfl := Option.some.inj H
                                      have hnb60 := NB240_247.out
                                      have hnc60 := NB247_240.out
                                      have hnb61 := NB240_254.out
                                      have hnc61 := NB254_240.out
                                      have hcz62_0 : wc.cell? ⟨gb240, 0, none⟩ = some (.bool t233) := (blk_cell BK240.out 0).trans rfl
                                      have hcz62_1 : wc.cell? ⟨gb240, 1, none⟩ = some (.int .i64 t234) := (blk_cell BK240.out 1).trans rfl
                                      have hcz62_2 : wc.cell? ⟨gb240, 2, none⟩ = some (.int .i64 t235) := (blk_cell BK240.out 2).trans rfl
                                      have hcz62_3 : wc.cell? ⟨gb240, 3, none⟩ = some (.int .i64 t236) := (blk_cell BK240.out 3).trans rfl
                                      have hcz62_4 : wc.cell? ⟨gb240, 4, none⟩ = some (.int .i64 t237) := (blk_cell BK240.out 4).trans rfl
                                      have hfz62_0 := blk_frozen BK240.out 0
                                      have hfz62_1 := blk_frozen BK240.out 1
                                      have hfz62_2 := blk_frozen BK240.out 2
                                      have hfz62_3 := blk_frozen BK240.out 3
                                      have hfz62_4 := blk_frozen BK240.out 4
                                      have hnb63 := NB247_254.out
                                      have hnc63 := NB254_247.out
                                      have hcz64_0 : wc.cell? ⟨gb247, 0, none⟩ = some (.bool true) := (blk_cell BK247.out 0).trans rfl
                                      have hcz64_1 : wc.cell? ⟨gb247, 1, none⟩ = some (.int .i64 t242) := (blk_cell BK247.out 1).trans rfl
                                      have hcz64_2 : wc.cell? ⟨gb247, 2, none⟩ = some (.int .i64 t243) := (blk_cell BK247.out 2).trans rfl
                                      have hcz64_3 : wc.cell? ⟨gb247, 3, none⟩ = some (.int .i64 t244) := (blk_cell BK247.out 3).trans rfl
                                      have hcz64_4 : wc.cell? ⟨gb247, 4, none⟩ = some (.int .i64 t245) := (blk_cell BK247.out 4).trans rfl
                                      have hfz64_0 := blk_frozen BK247.out 0
                                      have hfz64_1 := blk_frozen BK247.out 1
                                      have hfz64_2 := blk_frozen BK247.out 2
                                      have hfz64_3 := blk_frozen BK247.out 3
                                      have hfz64_4 := blk_frozen BK247.out 4
                                      go_wp2
                                      go_ret
                                      exact ⟨by first | rfl | (simp [errW_none, errW_some] <;> rfl) | (simp [*, errW_none, errW_some] <;> rfl), by repeat (first | (with_reducible first | exact HB.out | apply below_alloc | apply pw_below_drewN | apply below_drew1 | refine below_set ?_ GE240.out | refine below_set ?_ GE247.out | refine below_set ?_ GE254.out) | exact HB.out)⟩
                                    · rw [if_neg c59] at H
                                      have c59b0 : decide (t238 < t243) = false := decide_eq_false c59
                                      clear c59
                                      by_cases c65 : t244 < x12_42
                                      · rw [if_pos c65] at H
                                        have c65b0 : decide (t244 < x12_42) = true := decide_eq_true c65
                                        clear c65
                                        obtain rfl := Option.some.inj H
                                        have hnb66 := NB240_247.out
                                        have hnc66 := NB247_240.out
                                        have hnb67 := NB240_254.out
                                        have hnc67 := NB254_240.out
                                        have hcz68_0 : wc.cell? ⟨gb240, 0, none⟩ = some (.bool t233) := (blk_cell BK240.out 0).trans rfl
                                        have hcz68_1 : wc.cell? ⟨gb240, 1, none⟩ = some (.int .i64 t234) := (blk_cell BK240.out 1).trans rfl
                                        have hcz68_2 : wc.cell? ⟨gb240, 2, none⟩ = some (.int .i64 t235) := (blk_cell BK240.out 2).trans rfl
                                        have hcz68_3 : wc.cell? ⟨gb240, 3, none⟩ = some (.int .i64 t236) := (blk_cell BK240.out 3).trans rfl
                                        have hcz68_4 : wc.cell? ⟨gb240, 4, none⟩ = some (.int .i64 t237) := (blk_cell BK240.out 4).trans rfl
                                        have hfz68_0 := blk_frozen BK240.out 0
                                        have hfz68_1 := blk_frozen BK240.out 1
                                        have hfz68_2 := blk_frozen BK240.out 2
                                        have hfz68_3 := blk_frozen BK240.out 3
                                        have hfz68_4 := blk_frozen BK240.out 4
                                        have hnb69 := NB247_254.out
                                        have hnc69 := NB254_247.out
                                        have hcz70_0 : wc.cell? ⟨gb247, 0, none⟩ = some (.bool true) := (blk_cell BK247.out 0).trans rfl
                                        have hcz70_1 : wc.cell? ⟨gb247, 1, none⟩ = some (.int .i64 t242) := (blk_cell BK247.out 1).trans rfl
                                        have hcz70_2 : wc.cell? ⟨gb247, 2, none⟩ = some (.int .i64 t243) := (blk_cell BK247.out 2).trans rfl
                                        have hcz70_3 : wc.cell? ⟨gb247, 3, none⟩ = some (.int .i64 t244) := (blk_cell BK247.out 3).trans rfl
                                        have hcz70_4 : wc.cell? ⟨gb247, 4, none⟩ = some (.int .i64 t245) := (blk_cell BK247.out 4).trans rfl
                                        have hfz70_0 := blk_frozen BK247.out 0
                                        have hfz70_1 := blk_frozen BK247.out 1
                                        have hfz70_2 := blk_frozen BK247.out 2
                                        have hfz70_3 := blk_frozen BK247.out 3
                                        have hfz70_4 := blk_frozen BK247.out 4
                                        go_wp2
                                        go_ret
                                        exact ⟨by first | rfl | (simp [errW_none, errW_some] <;> rfl) | (simp [*, errW_none, errW_some] <;> rfl), by repeat (first | (with_reducible first | exact HB.out | apply below_alloc | apply pw_below_drewN | apply below_drew1 | refine below_set ?_ GE240.out | refine below_set ?_ GE247.out | refine below_set ?_ GE254.out) | exact HB.out)⟩
                                      · rw [if_neg c65] at H
                                        have c65b0 : decide (t244 < x12_42) = false := decide_eq_false c65
                                        clear c65
                                        by_cases c71 : t244 > t236
                                        · rw [if_pos c71] at H
                                          have c71b0 : decide (t236 < t244) = true := decide_eq_true c71
                                          clear c71
                                          obtain rfl := Option.some.inj H
                                          have hnb72 := NB240_247.out
                                          have hnc72 := NB247_240.out
                                          have hnb73 := NB240_254.out
                                          have hnc73 := NB254_240.out
                                          have hcz74_0 : wc.cell? ⟨gb240, 0, none⟩ = some (.bool t233) := (blk_cell BK240.out 0).trans rfl
                                          have hcz74_1 : wc.cell? ⟨gb240, 1, none⟩ = some (.int .i64 t234) := (blk_cell BK240.out 1).trans rfl
                                          have hcz74_2 : wc.cell? ⟨gb240, 2, none⟩ = some (.int .i64 t235) := (blk_cell BK240.out 2).trans rfl
                                          have hcz74_3 : wc.cell? ⟨gb240, 3, none⟩ = some (.int .i64 t236) := (blk_cell BK240.out 3).trans rfl
                                          have hcz74_4 : wc.cell? ⟨gb240, 4, none⟩ = some (.int .i64 t237) := (blk_cell BK240.out 4).trans rfl
                                          have hfz74_0 := blk_frozen BK240.out 0
                                          have hfz74_1 := blk_frozen BK240.out 1
                                          have hfz74_2 := blk_frozen BK240.out 2
                                          have hfz74_3 := blk_frozen BK240.out 3
                                          have hfz74_4 := blk_frozen BK240.out 4
                                          have hnb75 := NB247_254.out
                                          have hnc75 := NB254_247.out
                                          have hcz76_0 : wc.cell? ⟨gb247, 0, none⟩ = some (.bool true) := (blk_cell BK247.out 0).trans rfl
                                          have hcz76_1 : wc.cell? ⟨gb247, 1, none⟩ = some (.int .i64 t242) := (blk_cell BK247.out 1).trans rfl
                                          have hcz76_2 : wc.cell? ⟨gb247, 2, none⟩ = some (.int .i64 t243) := (blk_cell BK247.out 2).trans rfl
                                          have hcz76_3 : wc.cell? ⟨gb247, 3, none⟩ = some (.int .i64 t244) := (blk_cell BK247.out 3).trans rfl
                                          have hcz76_4 : wc.cell? ⟨gb247, 4, none⟩ = some (.int .i64 t245) := (blk_cell BK247.out 4).trans rfl
                                          have hfz76_0 := blk_frozen BK247.out 0
                                          have hfz76_1 := blk_frozen BK247.out 1
                                          have hfz76_2 := blk_frozen BK247.out 2
                                          have hfz76_3 := blk_frozen BK247.out 3
                                          have hfz76_4 := blk_frozen BK247.out 4
                                          go_wp2
                                          go_ret
                                          exact ⟨by first | rfl | (simp [errW_none, errW_some] <;> rfl) | (simp [*, errW_none, errW_some] <;> rfl), by repeat (first | (with_reducible first | exact HB.out | apply below_alloc | apply pw_below_drewN | apply below_drew1 | refine below_set ?_ GE240.out | refine below_set ?_ GE247.out | refine below_set ?_ GE254.out) | exact HB.out)⟩
                                        · rw [if_neg c71] at H
                                          have c71b0 : decide (t236 < t244) = false := decide_eq_false c71
                                          clear c71
                                          have H' := Aside0.mk H
                                          clear H
                                          have hnb77 := NB240_247.out
                                          have hnc77 := NB247_240.out
                                          have hnb78 := NB240_254.out
                                          have hnc78 := NB254_240.out
                                          have hcz79_0 : wc.cell? ⟨gb240, 0, none⟩ = some (.bool t233) := (blk_cell BK240.out 0).trans rfl
                                          have hcz79_1 : wc.cell? ⟨gb240, 1, none⟩ = some (.int .i64 t234) := (blk_cell BK240.out 1).trans rfl
                                          have hcz79_2 : wc.cell? ⟨gb240, 2, none⟩ = some (.int .i64 t235) := (blk_cell BK240.out 2).trans rfl
                                          have hcz79_3 : wc.cell? ⟨gb240, 3, none⟩ = some (.int .i64 t236) := (blk_cell BK240.out 3).trans rfl
                                          have hcz79_4 : wc.cell? ⟨gb240, 4, none⟩ = some (.int .i64 t237) := (blk_cell BK240.out 4).trans rfl
                                          have hfz79_0 := blk_frozen BK240.out 0
                                          have hfz79_1 := blk_frozen BK240.out 1
                                          have hfz79_2 := blk_frozen BK240.out 2
                                          have hfz79_3 := blk_frozen BK240.out 3
                                          have hfz79_4 := blk_frozen BK240.out 4
                                          have hnb80 := NB247_254.out
                                          have hnc80 := NB254_247.out
                                          have hcz81_0 : wc.cell? ⟨gb247, 0, none⟩ = some (.bool true) := (blk_cell BK247.out 0).trans rfl
                                          have hcz81_1 : wc.cell? ⟨gb247, 1, none⟩ = some (.int .i64 t242) := (blk_cell BK247.out 1).trans rfl
                                          have hcz81_2 : wc.cell? ⟨gb247, 2, none⟩ = some (.int .i64 t243) := (blk_cell BK247.out 2).trans rfl
                                          have hcz81_3 : wc.cell? ⟨gb247, 3, none⟩ = some (.int .i64 t244) := (blk_cell BK247.out 3).trans rfl
                                          have hcz81_4 : wc.cell? ⟨gb247, 4, none⟩ = some (.int .i64 t245) := (blk_cell BK247.out 4).trans rfl
                                          have hfz81_0 := blk_frozen BK247.out 0
                                          have hfz81_1 := blk_frozen BK247.out 1
                                          have hfz81_2 := blk_frozen BK247.out 2
                                          have hfz81_3 := blk_frozen BK247.out 3
                                          have hfz81_4 := blk_frozen BK247.out 4
                                          go_wp2
                                          go_meet
                                          case rel => exact ⟨_, H', ⟨by have := HJ6.out; have := HJ29.out; have := HJ34.out; have := HJ42.out; have := HJ47.out; first | omega | exact Nat.le_refl _⟩, ⟨by (with_reducible repeat (first | refine blk_drewN ?_ _ | refine blk_drew ?_ | refine blk_alloc ?_ _)); exact BK240.out⟩, ⟨by (with_reducible repeat (first | refine blk_drewN ?_ _ | refine blk_drew ?_ | refine blk_alloc ?_ _)); exact BK247.out⟩, ⟨by (with_reducible repeat (first | refine blk_drewN ?_ _ | refine blk_drew ?_ | refine blk_alloc ?_ _)); exact BK254.out⟩, ⟨by repeat (first | (with_reducible first | exact HB.out | apply below_alloc | apply pw_below_drewN | apply below_drew1 | refine below_set ?_ GE240.out | refine below_set ?_ GE247.out | refine below_set ?_ GE254.out) | exact HB.out)⟩⟩
                                  · rw [if_neg c58] at H
                                    have c58b0 : (t242 == t238) = false := beq_eq_false_iff_ne.mpr c58
                                    have c58b1 : (t242 != t238) = true := bne_iff_ne.mpr c58
                                    obtain rfl := Option.some.inj H
                                    have hnb82 := NB240_247.out
                                    have hnc82 := NB247_240.out
                                    have hnb83 := NB240_254.out
                                    have hnc83 := NB254_240.out
                                    have hcz84_0 : wc.cell? ⟨gb240, 0, none⟩ = some (.bool t233) := (blk_cell BK240.out 0).trans rfl
                                    have hcz84_1 : wc.cell? ⟨gb240, 1, none⟩ = some (.int .i64 t234) := (blk_cell BK240.out 1).trans rfl
                                    have hcz84_2 : wc.cell? ⟨gb240, 2, none⟩ = some (.int .i64 t235) := (blk_cell BK240.out 2).trans rfl
                                    have hcz84_3 : wc.cell? ⟨gb240, 3, none⟩ = some (.int .i64 t236) := (blk_cell BK240.out 3).trans rfl
                                    have hcz84_4 : wc.cell? ⟨gb240, 4, none⟩ = some (.int .i64 t237) := (blk_cell BK240.out 4).trans rfl
                                    have hfz84_0 := blk_frozen BK240.out 0
                                    have hfz84_1 := blk_frozen BK240.out 1
                                    have hfz84_2 := blk_frozen BK240.out 2
                                    have hfz84_3 := blk_frozen BK240.out 3
                                    have hfz84_4 := blk_frozen BK240.out 4
                                    have hnb85 := NB247_254.out
                                    have hnc85 := NB254_247.out
                                    have hcz86_0 : wc.cell? ⟨gb247, 0, none⟩ = some (.bool true) := (blk_cell BK247.out 0).trans rfl
                                    have hcz86_1 : wc.cell? ⟨gb247, 1, none⟩ = some (.int .i64 t242) := (blk_cell BK247.out 1).trans rfl
                                    have hcz86_2 : wc.cell? ⟨gb247, 2, none⟩ = some (.int .i64 t243) := (blk_cell BK247.out 2).trans rfl
                                    have hcz86_3 : wc.cell? ⟨gb247, 3, none⟩ = some (.int .i64 t244) := (blk_cell BK247.out 3).trans rfl
                                    have hcz86_4 : wc.cell? ⟨gb247, 4, none⟩ = some (.int .i64 t245) := (blk_cell BK247.out 4).trans rfl
                                    have hfz86_0 := blk_frozen BK247.out 0
                                    have hfz86_1 := blk_frozen BK247.out 1
                                    have hfz86_2 := blk_frozen BK247.out 2
                                    have hfz86_3 := blk_frozen BK247.out 3
                                    have hfz86_4 := blk_frozen BK247.out 4
                                    go_wp2
                                    go_ret
                                    exact ⟨by first | rfl | (simp [errW_none, errW_some] <;> rfl) | (simp [*, errW_none, errW_some] <;> rfl), by repeat (first | (with_reducible first | exact HB.out | apply below_alloc | apply pw_below_drewN | apply below_drew1 | refine below_set ?_ GE240.out | refine below_set ?_ GE247.out | refine below_set ?_ GE254.out) | exact HB.out)⟩
                                · replace c57 := Bool.eq_false_iff.mpr c57
                                  subst c57
                                  have H1 : (some false) = some r := by rw [if_neg (show ¬ (false = true) by decide)] at H; exact H
                                  clear H
                                  have H := H1
                                  clear H1
                                  obtain rfl := Option.some.inj H
                                  have hnb87 := NB240_247.out
                                  have hnc87 := NB247_240.out
                                  have hnb88 := NB240_254.out
                                  have hnc88 := NB254_240.out
                                  have hcz89_0 : wc.cell? ⟨gb240, 0, none⟩ = some (.bool t233) := (blk_cell BK240.out 0).trans rfl
                                  have hcz89_1 : wc.cell? ⟨gb240, 1, none⟩ = some (.int .i64 t234) := (blk_cell BK240.out 1).trans rfl
                                  have hcz89_2 : wc.cell? ⟨gb240, 2, none⟩ = some (.int .i64 t235) := (blk_cell BK240.out 2).trans rfl
                                  have hcz89_3 : wc.cell? ⟨gb240, 3, none⟩ = some (.int .i64 t236) := (blk_cell BK240.out 3).trans rfl
                                  have hcz89_4 : wc.cell? ⟨gb240, 4, none⟩ = some (.int .i64 t237) := (blk_cell BK240.out 4).trans rfl
                                  have hfz89_0 := blk_frozen BK240.out 0
                                  have hfz89_1 := blk_frozen BK240.out 1
                                  have hfz89_2 := blk_frozen BK240.out 2
                                  have hfz89_3 := blk_frozen BK240.out 3
                                  have hfz89_4 := blk_frozen BK240.out 4
                                  have hnb90 := NB247_254.out
                                  have hnc90 := NB254_247.out
                                  have hcz91_0 : wc.cell? ⟨gb247, 0, none⟩ = some (.bool false) := (blk_cell BK247.out 0).trans rfl
                                  have hcz91_1 : wc.cell? ⟨gb247, 1, none⟩ = some (.int .i64 t242) := (blk_cell BK247.out 1).trans rfl
                                  have hcz91_2 : wc.cell? ⟨gb247, 2, none⟩ = some (.int .i64 t243) := (blk_cell BK247.out 2).trans rfl
                                  have hcz91_3 : wc.cell? ⟨gb247, 3, none⟩ = some (.int .i64 t244) := (blk_cell BK247.out 3).trans rfl
                                  have hcz91_4 : wc.cell? ⟨gb247, 4, none⟩ = some (.int .i64 t245) := (blk_cell BK247.out 4).trans rfl
                                  have hfz91_0 := blk_frozen BK247.out 0
                                  have hfz91_1 := blk_frozen BK247.out 1
                                  have hfz91_2 := blk_frozen BK247.out 2
                                  have hfz91_3 := blk_frozen BK247.out 3
                                  have hfz91_4 := blk_frozen BK247.out 4
                                  go_wp2
                                  go_ret
                                  exact ⟨by first | rfl | (simp [errW_none, errW_some] <;> rfl) | (simp [*, errW_none, errW_some] <;> rfl), by repeat (first | (with_reducible first | exact HB.out | apply below_alloc | apply pw_below_drewN | apply below_drew1 | refine below_set ?_ GE240.out | refine below_set ?_ GE247.out | refine below_set ?_ GE254.out) | exact HB.out)⟩
                              · replace c56 := Bool.eq_false_iff.mpr c56
                                subst c56
                                have H1 : (if t241 = true then (if t242 = t238 then (if t243 > t238 then (some false) else (if t244 < x12_42 then (some false) else (if t244 > t238 then (some false) else (laws_FnRtt.j5 kj47 l1)))) else (some false)) else (some false)) = some r := by rw [if_neg (show ¬ (false = true) by decide)] at H; exact H
                                clear H
                                have H := H1
                                clear H1
                                by_cases c92 : t241 = true
                                · subst c92
                                  have H1 : (if t242 = t238 then (if t243 > t238 then (some false) else (if t244 < x12_42 then (some false) else (if t244 > t238 then (some false) else (laws_FnRtt.j5 kj47 l1)))) else (some false)) = some r := by rw [if_pos rfl] at H; exact H
                                  clear H
                                  have H := H1
                                  clear H1
                                  by_cases c93 : t242 = t238
                                  · rw [if_pos c93] at H
                                    have c93b0 : (t242 == t238) = true := beq_iff_eq.mpr c93
                                    have c93b1 : (t242 != t238) = false := bne_eq_false_iff_eq.mpr c93
                                    clear c93
                                    by_cases c94 : t243 > t238
                                    · rw [if_pos c94] at H
                                      have c94b0 : decide (t238 < t243) = true := decide_eq_true c94
                                      clear c94
                                      obtain rfl := Option.some.inj H
                                      have hnb95 := NB247_240.out
                                      have hnc95 := NB240_247.out
                                      have hnb96 := NB247_254.out
                                      have hnc96 := NB254_247.out
                                      have hcz97_0 : wc.cell? ⟨gb247, 0, none⟩ = some (.bool true) := (blk_cell BK247.out 0).trans rfl
                                      have hcz97_1 : wc.cell? ⟨gb247, 1, none⟩ = some (.int .i64 t242) := (blk_cell BK247.out 1).trans rfl
                                      have hcz97_2 : wc.cell? ⟨gb247, 2, none⟩ = some (.int .i64 t243) := (blk_cell BK247.out 2).trans rfl
                                      have hcz97_3 : wc.cell? ⟨gb247, 3, none⟩ = some (.int .i64 t244) := (blk_cell BK247.out 3).trans rfl
                                      have hcz97_4 : wc.cell? ⟨gb247, 4, none⟩ = some (.int .i64 t245) := (blk_cell BK247.out 4).trans rfl
                                      have hfz97_0 := blk_frozen BK247.out 0
                                      have hfz97_1 := blk_frozen BK247.out 1
                                      have hfz97_2 := blk_frozen BK247.out 2
                                      have hfz97_3 := blk_frozen BK247.out 3
                                      have hfz97_4 := blk_frozen BK247.out 4
                                      go_wp2
                                      go_ret
                                      exact ⟨by first | rfl | (simp [errW_none, errW_some] <;> rfl) | (simp [*, errW_none, errW_some] <;> rfl), by repeat (first | (with_reducible first | exact HB.out | apply below_alloc | apply pw_below_drewN | apply below_drew1 | refine below_set ?_ GE240.out | refine below_set ?_ GE247.out | refine below_set ?_ GE254.out) | exact HB.out)⟩
                                    · rw [if_neg c94] at H
                                      have c94b0 : decide (t238 < t243) = false := decide_eq_false c94
                                      clear c94
                                      by_cases c98 : t244 < x12_42
                                      · rw [if_pos c98] at H
                                        have c98b0 : decide (t244 < x12_42) = true := decide_eq_true c98
                                        clear c98
                                        obtain rfl := Option.some.inj H
                                        have hnb99 := NB247_240.out
                                        have hnc99 := NB240_247.out
                                        have hnb100 := NB247_254.out
                                        have hnc100 := NB254_247.out
                                        have hcz101_0 : wc.cell? ⟨gb247, 0, none⟩ = some (.bool true) := (blk_cell BK247.out 0).trans rfl
                                        have hcz101_1 : wc.cell? ⟨gb247, 1, none⟩ = some (.int .i64 t242) := (blk_cell BK247.out 1).trans rfl
                                        have hcz101_2 : wc.cell? ⟨gb247, 2, none⟩ = some (.int .i64 t243) := (blk_cell BK247.out 2).trans rfl
                                        have hcz101_3 : wc.cell? ⟨gb247, 3, none⟩ = some (.int .i64 t244) := (blk_cell BK247.out 3).trans rfl
                                        have hcz101_4 : wc.cell? ⟨gb247, 4, none⟩ = some (.int .i64 t245) := (blk_cell BK247.out 4).trans rfl
                                        have hfz101_0 := blk_frozen BK247.out 0
                                        have hfz101_1 := blk_frozen BK247.out 1
                                        have hfz101_2 := blk_frozen BK247.out 2
                                        have hfz101_3 := blk_frozen BK247.out 3
                                        have hfz101_4 := blk_frozen BK247.out 4
                                        go_wp2
                                        go_ret
                                        exact ⟨by first | rfl | (simp [errW_none, errW_some] <;> rfl) | (simp [*, errW_none, errW_some] <;> rfl), by repeat (first | (with_reducible first | exact HB.out | apply below_alloc | apply pw_below_drewN | apply below_drew1 | refine below_set ?_ GE240.out | refine below_set ?_ GE247.out | refine below_set ?_ GE254.out) | exact HB.out)⟩
                                      · rw [if_neg c98] at H
                                        have c98b0 : decide (t244 < x12_42) = false := decide_eq_false c98
                                        clear c98
                                        by_cases c102 : t244 > t238
                                        · rw [if_pos c102] at H
                                          have c102b0 : decide (t238 < t244) = true := decide_eq_true c102
                                          clear c102
                                          obtain rfl := Option.some.inj H
                                          have hnb103 := NB247_240.out
                                          have hnc103 := NB240_247.out
                                          have hnb104 := NB247_254.out
                                          have hnc104 := NB254_247.out
                                          have hcz105_0 : wc.cell? ⟨gb247, 0, none⟩ = some (.bool true) := (blk_cell BK247.out 0).trans rfl
                                          have hcz105_1 : wc.cell? ⟨gb247, 1, none⟩ = some (.int .i64 t242) := (blk_cell BK247.out 1).trans rfl
                                          have hcz105_2 : wc.cell? ⟨gb247, 2, none⟩ = some (.int .i64 t243) := (blk_cell BK247.out 2).trans rfl
                                          have hcz105_3 : wc.cell? ⟨gb247, 3, none⟩ = some (.int .i64 t244) := (blk_cell BK247.out 3).trans rfl
                                          have hcz105_4 : wc.cell? ⟨gb247, 4, none⟩ = some (.int .i64 t245) := (blk_cell BK247.out 4).trans rfl
                                          have hfz105_0 := blk_frozen BK247.out 0
                                          have hfz105_1 := blk_frozen BK247.out 1
                                          have hfz105_2 := blk_frozen BK247.out 2
                                          have hfz105_3 := blk_frozen BK247.out 3
                                          have hfz105_4 := blk_frozen BK247.out 4
                                          go_wp2
                                          go_ret
                                          exact ⟨by first | rfl | (simp [errW_none, errW_some] <;> rfl) | (simp [*, errW_none, errW_some] <;> rfl), by repeat (first | (with_reducible first | exact HB.out | apply below_alloc | apply pw_below_drewN | apply below_drew1 | refine below_set ?_ GE240.out | refine below_set ?_ GE247.out | refine below_set ?_ GE254.out) | exact HB.out)⟩
                                        · rw [if_neg c102] at H
                                          have c102b0 : decide (t238 < t244) = false := decide_eq_false c102
                                          clear c102
                                          have H' := Aside0.mk H
                                          clear H
                                          have hnb106 := NB247_240.out
                                          have hnc106 := NB240_247.out
                                          have hnb107 := NB247_254.out
                                          have hnc107 := NB254_247.out
                                          have hcz108_0 : wc.cell? ⟨gb247, 0, none⟩ = some (.bool true) := (blk_cell BK247.out 0).trans rfl
                                          have hcz108_1 : wc.cell? ⟨gb247, 1, none⟩ = some (.int .i64 t242) := (blk_cell BK247.out 1).trans rfl
                                          have hcz108_2 : wc.cell? ⟨gb247, 2, none⟩ = some (.int .i64 t243) := (blk_cell BK247.out 2).trans rfl
                                          have hcz108_3 : wc.cell? ⟨gb247, 3, none⟩ = some (.int .i64 t244) := (blk_cell BK247.out 3).trans rfl
                                          have hcz108_4 : wc.cell? ⟨gb247, 4, none⟩ = some (.int .i64 t245) := (blk_cell BK247.out 4).trans rfl
                                          have hfz108_0 := blk_frozen BK247.out 0
                                          have hfz108_1 := blk_frozen BK247.out 1
                                          have hfz108_2 := blk_frozen BK247.out 2
                                          have hfz108_3 := blk_frozen BK247.out 3
                                          have hfz108_4 := blk_frozen BK247.out 4
                                          go_wp2
                                          go_meet
                                          case rel => exact ⟨_, H', ⟨by have := HJ6.out; have := HJ29.out; have := HJ34.out; have := HJ42.out; have := HJ47.out; first | omega | exact Nat.le_refl _⟩, ⟨by (with_reducible repeat (first | refine blk_drewN ?_ _ | refine blk_drew ?_ | refine blk_alloc ?_ _)); exact BK240.out⟩, ⟨by (with_reducible repeat (first | refine blk_drewN ?_ _ | refine blk_drew ?_ | refine blk_alloc ?_ _)); exact BK247.out⟩, ⟨by (with_reducible repeat (first | refine blk_drewN ?_ _ | refine blk_drew ?_ | refine blk_alloc ?_ _)); exact BK254.out⟩, ⟨by repeat (first | (with_reducible first | exact HB.out | apply below_alloc | apply pw_below_drewN | apply below_drew1 | refine below_set ?_ GE240.out | refine below_set ?_ GE247.out | refine below_set ?_ GE254.out) | exact HB.out)⟩⟩
                                  · rw [if_neg c93] at H
                                    have c93b0 : (t242 == t238) = false := beq_eq_false_iff_ne.mpr c93
                                    have c93b1 : (t242 != t238) = true := bne_iff_ne.mpr c93
                                    obtain rfl := Option.some.inj H
                                    have hnb109 := NB247_240.out
                                    have hnc109 := NB240_247.out
                                    have hnb110 := NB247_254.out
                                    have hnc110 := NB254_247.out
                                    have hcz111_0 : wc.cell? ⟨gb247, 0, none⟩ = some (.bool true) := (blk_cell BK247.out 0).trans rfl
                                    have hcz111_1 : wc.cell? ⟨gb247, 1, none⟩ = some (.int .i64 t242) := (blk_cell BK247.out 1).trans rfl
                                    have hcz111_2 : wc.cell? ⟨gb247, 2, none⟩ = some (.int .i64 t243) := (blk_cell BK247.out 2).trans rfl
                                    have hcz111_3 : wc.cell? ⟨gb247, 3, none⟩ = some (.int .i64 t244) := (blk_cell BK247.out 3).trans rfl
                                    have hcz111_4 : wc.cell? ⟨gb247, 4, none⟩ = some (.int .i64 t245) := (blk_cell BK247.out 4).trans rfl
                                    have hfz111_0 := blk_frozen BK247.out 0
                                    have hfz111_1 := blk_frozen BK247.out 1
                                    have hfz111_2 := blk_frozen BK247.out 2
                                    have hfz111_3 := blk_frozen BK247.out 3
                                    have hfz111_4 := blk_frozen BK247.out 4
                                    go_wp2
                                    go_ret
                                    exact ⟨by first | rfl | (simp [errW_none, errW_some] <;> rfl) | (simp [*, errW_none, errW_some] <;> rfl), by repeat (first | (with_reducible first | exact HB.out | apply below_alloc | apply pw_below_drewN | apply below_drew1 | refine below_set ?_ GE240.out | refine below_set ?_ GE247.out | refine below_set ?_ GE254.out) | exact HB.out)⟩
                                · replace c92 := Bool.eq_false_iff.mpr c92
                                  subst c92
                                  have H1 : (some false) = some r := by rw [if_neg (show ¬ (false = true) by decide)] at H; exact H
                                  clear H
                                  have H := H1
                                  clear H1
                                  obtain rfl := Option.some.inj H
                                  have hnb112 := NB247_240.out
                                  have hnc112 := NB240_247.out
                                  have hnb113 := NB247_254.out
                                  have hnc113 := NB254_247.out
                                  have hcz114_0 : wc.cell? ⟨gb247, 0, none⟩ = some (.bool false) := (blk_cell BK247.out 0).trans rfl
                                  have hcz114_1 : wc.cell? ⟨gb247, 1, none⟩ = some (.int .i64 t242) := (blk_cell BK247.out 1).trans rfl
                                  have hcz114_2 : wc.cell? ⟨gb247, 2, none⟩ = some (.int .i64 t243) := (blk_cell BK247.out 2).trans rfl
                                  have hcz114_3 : wc.cell? ⟨gb247, 3, none⟩ = some (.int .i64 t244) := (blk_cell BK247.out 3).trans rfl
                                  have hcz114_4 : wc.cell? ⟨gb247, 4, none⟩ = some (.int .i64 t245) := (blk_cell BK247.out 4).trans rfl
                                  have hfz114_0 := blk_frozen BK247.out 0
                                  have hfz114_1 := blk_frozen BK247.out 1
                                  have hfz114_2 := blk_frozen BK247.out 2
                                  have hfz114_3 := blk_frozen BK247.out 3
                                  have hfz114_4 := blk_frozen BK247.out 4
                                  go_wp2
                                  go_ret
                                  exact ⟨by first | rfl | (simp [errW_none, errW_some] <;> rfl) | (simp [*, errW_none, errW_some] <;> rfl), by repeat (first | (with_reducible first | exact HB.out | apply below_alloc | apply pw_below_drewN | apply below_drew1 | refine below_set ?_ GE240.out | refine below_set ?_ GE247.out | refine below_set ?_ GE254.out) | exact HB.out)⟩
            · replace c29 := Bool.eq_false_iff.mpr c29
              subst c29
              have H1 : (laws_FnRtt.j5 kj6 l1) = some r := by rw [if_neg (show ¬ (false = true) by decide)] at H; exact H
              clear H
              have H := H1
              clear H1
              have H' := Aside0.mk H
              clear H
              go_wp2
              go_meet
              case rel => exact ⟨_, H', ⟨by have := HJ6.out; first | omega | exact Nat.le_refl _⟩, ⟨by (with_reducible repeat (first | refine blk_drewN ?_ _ | refine blk_drew ?_ | refine blk_alloc ?_ _)); exact BK240.out⟩, ⟨by (with_reducible repeat (first | refine blk_drewN ?_ _ | refine blk_drew ?_ | refine blk_alloc ?_ _)); exact BK247.out⟩, ⟨by (with_reducible repeat (first | refine blk_drewN ?_ _ | refine blk_drew ?_ | refine blk_alloc ?_ _)); exact BK254.out⟩, ⟨by repeat (first | (with_reducible first | exact HB.out | apply below_alloc | apply pw_below_drewN | apply below_drew1 | refine below_set ?_ GE240.out | refine below_set ?_ GE247.out | refine below_set ?_ GE254.out) | exact HB.out)⟩⟩
          case rest =>
            clear HC28
            try clear c1
            try clear c2
            try clear p2
            try clear c3
            try clear c3b0
            try clear c4
            try clear c5
            try clear c6
            try clear p6
            try clear c7
            try clear c8
            try clear c9
            try clear c10
            try clear c11
            try clear c13
            try clear c18
            try clear c19
            try clear c21
            try clear c21b0
            try clear c21b1
            try clear c21b2
            try clear c22
            try clear c23
            try clear c25
            try clear c26
            try clear c27
            try clear c29
            try clear c31
            try clear c32
            try clear c34
            try clear c34b0
            try clear c36
            try clear c37
            try clear c38
            try clear c40
            try clear c41
            try clear c44
            try clear c45
            try clear c46
            try clear c49
            try clear c50
            try clear c51
            try clear c53
            try clear c54
            try clear c56
            try clear c57
            try clear c58
            try clear c58b0
            try clear c58b1
            try clear c59
            try clear c59b0
            try clear c60
            try clear c61
            try clear c63
            try clear c65
            try clear c65b0
            try clear c66
            try clear c67
            try clear c69
            try clear c71
            try clear c71b0
            try clear c72
            try clear c73
            try clear c75
            try clear c77
            try clear c78
            try clear c80
            try clear c82
            try clear c83
            try clear c85
            try clear c87
            try clear c88
            try clear c90
            try clear c92
            try clear c93
            try clear c93b0
            try clear c93b1
            try clear c94
            try clear c94b0
            try clear c95
            try clear c96
            try clear c98
            try clear c98b0
            try clear c99
            try clear c100
            try clear c102
            try clear c102b0
            try clear c103
            try clear c104
            try clear c106
            try clear c107
            try clear c109
            try clear c110
            try clear c112
            try clear c113
            try clear hcz101_0
            try clear hcz101_1
            try clear hcz101_2
            try clear hcz101_3
            try clear hcz101_4
            try clear hcz105_0
            try clear hcz105_1
            try clear hcz105_2
            try clear hcz105_3
            try clear hcz105_4
            try clear hcz108_0
            try clear hcz108_1
            try clear hcz108_2
            try clear hcz108_3
            try clear hcz108_4
            try clear hcz10_0
            try clear hcz10_1
            try clear hcz10_2
            try clear hcz10_3
            try clear hcz10_4
            try clear hcz111_0
            try clear hcz111_1
            try clear hcz111_2
            try clear hcz111_3
            try clear hcz111_4
            try clear hcz114_0
            try clear hcz114_1
            try clear hcz114_2
            try clear hcz114_3
            try clear hcz114_4
            try clear hcz14_0
            try clear hcz14_1
            try clear hcz14_2
            try clear hcz14_3
            try clear hcz14_4
            try clear hcz15_0
            try clear hcz15_1
            try clear hcz15_2
            try clear hcz15_3
            try clear hcz15_4
            try clear hcz20_0
            try clear hcz20_1
            try clear hcz20_2
            try clear hcz20_3
            try clear hcz20_4
            try clear hcz24_0
            try clear hcz24_1
            try clear hcz24_2
            try clear hcz24_3
            try clear hcz24_4
            try clear hcz26_0
            try clear hcz26_1
            try clear hcz26_2
            try clear hcz26_3
            try clear hcz26_4
            try clear hcz33_0
            try clear hcz33_1
            try clear hcz33_2
            try clear hcz33_3
            try clear hcz33_4
            try clear hcz39_0
            try clear hcz39_1
            try clear hcz39_2
            try clear hcz39_3
            try clear hcz39_4
            try clear hcz42_0
            try clear hcz42_1
            try clear hcz42_2
            try clear hcz42_3
            try clear hcz42_4
            try clear hcz47_0
            try clear hcz47_1
            try clear hcz47_2
            try clear hcz47_3
            try clear hcz47_4
            try clear hcz52_0
            try clear hcz52_1
            try clear hcz52_2
            try clear hcz52_3
            try clear hcz52_4
            try clear hcz55_0
            try clear hcz55_1
            try clear hcz55_2
            try clear hcz55_3
            try clear hcz55_4
            try clear hcz62_0
            try clear hcz62_1
            try clear hcz62_2
            try clear hcz62_3
            try clear hcz62_4
            try clear hcz64_0
            try clear hcz64_1
            try clear hcz64_2
            try clear hcz64_3
            try clear hcz64_4
            try clear hcz68_0
            try clear hcz68_1
            try clear hcz68_2
            try clear hcz68_3
            try clear hcz68_4
            try clear hcz70_0
            try clear hcz70_1
            try clear hcz70_2
            try clear hcz70_3
            try clear hcz70_4
            try clear hcz74_0
            try clear hcz74_1
            try clear hcz74_2
            try clear hcz74_3
            try clear hcz74_4
            try clear hcz76_0
            try clear hcz76_1
            try clear hcz76_2
            try clear hcz76_3
            try clear hcz76_4
            try clear hcz79_0
            try clear hcz79_1
            try clear hcz79_2
            try clear hcz79_3
            try clear hcz79_4
            try clear hcz81_0
            try clear hcz81_1
            try clear hcz81_2
            try clear hcz81_3
            try clear hcz81_4
            try clear hcz84_0
            try clear hcz84_1
            try clear hcz84_2
            try clear hcz84_3
            try clear hcz84_4
            try clear hcz86_0
            try clear hcz86_1
            try clear hcz86_2
            try clear hcz86_3
            try clear hcz86_4
            try clear hcz89_0
            try clear hcz89_1
            try clear hcz89_2
            try clear hcz89_3
            try clear hcz89_4
            try clear hcz91_0
            try clear hcz91_1
            try clear hcz91_2
            try clear hcz91_3
            try clear hcz91_4
            try clear hcz97_0
            try clear hcz97_1
            try clear hcz97_2
            try clear hcz97_3
            try clear hcz97_4
            try clear hfz101_0
            try clear hfz101_1
            try clear hfz101_2
            try clear hfz101_3
            try clear hfz101_4
            try clear hfz105_0
            try clear hfz105_1
            try clear hfz105_2
            try clear hfz105_3
            try clear hfz105_4
            try clear hfz108_0
            try clear hfz108_1
            try clear hfz108_2
            try clear hfz108_3
            try clear hfz108_4
            try clear hfz10_0
            try clear hfz10_1
            try clear hfz10_2
            try clear hfz10_3
            try clear hfz10_4
            try clear hfz111_0
            try clear hfz111_1
            try clear hfz111_2
            try clear hfz111_3
            try clear hfz111_4
            try clear hfz114_0
            try clear hfz114_1
            try clear hfz114_2
            try clear hfz114_3
            try clear hfz114_4
            try clear hfz14_0
            try clear hfz14_1
            try clear hfz14_2
            try clear hfz14_3
            try clear hfz14_4
            try clear hfz15_0
            try clear hfz15_1
            try clear hfz15_2
            try clear hfz15_3
            try clear hfz15_4
            try clear hfz20_0
            try clear hfz20_1
            try clear hfz20_2
            try clear hfz20_3
            try clear hfz20_4
            try clear hfz24_0
            try clear hfz24_1
            try clear hfz24_2
            try clear hfz24_3
            try clear hfz24_4
            try clear hfz26_0
            try clear hfz26_1
            try clear hfz26_2
            try clear hfz26_3
            try clear hfz26_4
            try clear hfz33_0
            try clear hfz33_1
            try clear hfz33_2
            try clear hfz33_3
            try clear hfz33_4
            try clear hfz39_0
            try clear hfz39_1
            try clear hfz39_2
            try clear hfz39_3
            try clear hfz39_4
            try clear hfz42_0
            try clear hfz42_1
            try clear hfz42_2
            try clear hfz42_3
            try clear hfz42_4
            try clear hfz47_0
            try clear hfz47_1
            try clear hfz47_2
            try clear hfz47_3
            try clear hfz47_4
            try clear hfz52_0
            try clear hfz52_1
            try clear hfz52_2
            try clear hfz52_3
            try clear hfz52_4
            try clear hfz55_0
            try clear hfz55_1
            try clear hfz55_2
            try clear hfz55_3
            try clear hfz55_4
            try clear hfz62_0
            try clear hfz62_1
            try clear hfz62_2
            try clear hfz62_3
            try clear hfz62_4
            try clear hfz64_0
            try clear hfz64_1
            try clear hfz64_2
            try clear hfz64_3
            try clear hfz64_4
            try clear hfz68_0
            try clear hfz68_1
            try clear hfz68_2
            try clear hfz68_3
            try clear hfz68_4
            try clear hfz70_0
            try clear hfz70_1
            try clear hfz70_2
            try clear hfz70_3
            try clear hfz70_4
            try clear hfz74_0
            try clear hfz74_1
            try clear hfz74_2
            try clear hfz74_3
            try clear hfz74_4
            try clear hfz76_0
            try clear hfz76_1
            try clear hfz76_2
            try clear hfz76_3
            try clear hfz76_4
            try clear hfz79_0
            try clear hfz79_1
            try clear hfz79_2
            try clear hfz79_3
            try clear hfz79_4
            try clear hfz81_0
            try clear hfz81_1
            try clear hfz81_2
            try clear hfz81_3
            try clear hfz81_4
            try clear hfz84_0
            try clear hfz84_1
            try clear hfz84_2
            try clear hfz84_3
            try clear hfz84_4
            try clear hfz86_0
            try clear hfz86_1
            try clear hfz86_2
            try clear hfz86_3
            try clear hfz86_4
            try clear hfz89_0
            try clear hfz89_1
            try clear hfz89_2
            try clear hfz89_3
            try clear hfz89_4
            try clear hfz91_0
            try clear hfz91_1
            try clear hfz91_2
            try clear hfz91_3
            try clear hfz91_4
            try clear hfz97_0
            try clear hfz97_1
            try clear hfz97_2
            try clear hfz97_3
            try clear hfz97_4
            try clear p2
            try clear p6
            obtain ⟨kq, HA, HJ27, BK240, BK247, BK254, HB⟩ := hcut
            cases kq with
            | zero => exact absurd HA.out (by simp [laws_FnRtt.j5])
            | succ kj27 =>
              have H := HA.out
              clear HA
              simp only [laws_FnRtt.j5] at H
              replace H := Option.bind_eq_some_iff.mp H
              obtain ⟨⟨t255, t256, t257, t258, t259, t260, t261⟩, A1150, H⟩ := H
              replace H : ((impl_ProbeTime.f kj27 t255 t256 t257 t258 t259 t260 t261).bind fun bt263 => ((spec_ProbeTime.f kj27 t255 t256 t257 t258 t259 t260 t261).bind fun bt265 => (if (bt263.2 != bt265.2) = true then (some false) else (if bt263.1 = bt265.1 then ((impl_ProbeTime.f kj27 t255 t256 t257 t258 t259 t260 (wrap64 (t261 + 1))).bind fun bt267 => (if bt267.2 = true then (if bt263.2 = true then (if bt267.1 = (wrap64 (2 * bt263.1)) then (some true) else (some false)) else (some (decide (t261 < 0)))) else (some true))) else (some false))))) = some r := H
              have A115 := Aside0.mk A1150
              clear A1150
              replace H := Option.bind_eq_some_iff.mp H
              obtain ⟨⟨t263, t264⟩, A1160, H⟩ := H
              replace H : ((spec_ProbeTime.f kj27 t255 t256 t257 t258 t259 t260 t261).bind fun bt265 => (if (t264 != bt265.2) = true then (some false) else (if t263 = bt265.1 then ((impl_ProbeTime.f kj27 t255 t256 t257 t258 t259 t260 (wrap64 (t261 + 1))).bind fun bt267 => (if bt267.2 = true then (if t264 = true then (if bt267.1 = (wrap64 (2 * t263)) then (some true) else (some false)) else (some (decide (t261 < 0)))) else (some true))) else (some false)))) = some r := H
              have A116 := Aside0.mk A1160
              clear A1160
              replace H := Option.bind_eq_some_iff.mp H
              obtain ⟨⟨t265, t266⟩, A1170, H⟩ := H
              replace H : (if (t264 != t266) = true then (some false) else (if t263 = t265 then ((impl_ProbeTime.f kj27 t255 t256 t257 t258 t259 t260 (wrap64 (t261 + 1))).bind fun bt267 => (if bt267.2 = true then (if t264 = true then (if bt267.1 = (wrap64 (2 * t263)) then (some true) else (some false)) else (some (decide (t261 < 0)))) else (some true))) else (some false))) = some r := H
              have A117 := Aside0.mk A1170
              clear A1170
              by_cases c118 : (t264 != t266) = true
              · rw [if_pos c118] at H
                have c118b0 : (t264 != t266) = true := c118
                (try (have c118b1 : decide (t264 = t266) = false := by simpa using c118))
                (try (have c118b2 : (t264 == t266) = false := by simpa using c118))
                (try (have c118b3 : ¬ (t264 = t266) := by simpa using c118))
                clear c118
                obtain rfl := Option.some.inj H
                go_wp2_with (first | ((with_reducible refine gate_callee (f := 28) rfl ?_); refine goesL_ (some 118) rfl rfl Try.func28 (by kernel_rfl) rfl #[.slice A1 l1.length c1] rfl (by (try simp only [List.map_toArray, List.map_cons, List.map_nil]); first | done | rfl | (simp only [List.length_drop, List.length_take]; rfl)) ?_; (with_reducible refine (spec_DrawProbeTime.calls kj27 _ _ l1 t255 t256 t257 t258 t259 t260 t261 _ ?side1 ?side2 A115.out).mono ?_); (case side1 => repeat (first | exact (Kd.C_below HR1.out HB.out) | (with_reducible refine Kd.C_alloc ?_ _) | (with_reducible refine Kd.C_drewN ?_ _) | (with_reducible refine Kd.C_drew ?_))); (case side2 => exact HC1.out); rintro e w119 ⟨rfl, hb⟩; refine ⟨_, rfl, ?_⟩; have n0_ := Aside0.mk (blk_below (g := gb240) (o := .cells #[.bool t233, .int .i64 t234, .int .i64 t235, .int .i64 t236, .int .i64 t237] 39 (0, 0)) (by (with_reducible repeat (first | refine blk_drewN ?_ _ | refine blk_drew ?_ | refine blk_alloc ?_ _)); exact BK240.out) hb); have n1_ := Aside0.mk (blk_below (g := gb247) (o := .cells #[.bool t241, .int .i64 t242, .int .i64 t243, .int .i64 t244, .int .i64 t245] 39 (0, 0)) (by (with_reducible repeat (first | refine blk_drewN ?_ _ | refine blk_drew ?_ | refine blk_alloc ?_ _)); exact BK247.out) hb); have n2_ := Aside0.mk (blk_below (g := gb254) (o := .cells #[.bool t248, .int .i64 t249, .int .i64 t250, .int .i64 t251, .int .i64 t252] 39 (0, 0)) (by (with_reducible repeat (first | refine blk_drewN ?_ _ | refine blk_drew ?_ | refine blk_alloc ?_ _)); exact BK254.out) hb); have n3_ := Aside0.mk (below_step (by repeat (first | (with_reducible first | exact HB.out | apply below_alloc | apply pw_below_drewN | apply below_drew1 | refine below_set ?_ GE240.out | refine below_set ?_ GE247.out | refine below_set ?_ GE254.out) | exact HB.out)) hb); clear BK240; clear BK247; clear BK254; clear HB; have BK240 := n0_; have BK247 := n1_; have BK254 := n2_; have HB := n3_; clear n0_ n1_ n2_ n3_; (try clear hb); (try clear hb2); (try clear hk); (try clear hi)) | ((with_reducible refine gate_dst (N := 14) rfl ?_); refine box_event ?hg (N := 14) ?hd (cs := #[.bool false, .int .i64 0, .int .i64 0, .int .i64 0, .int .i64 0]) (t := 39) ?hr ?_; (case hd => rfl); (case hg => rfl); (case hr => first | (go_simp; done) | (go_simp; rfl)); intro gb262 hg w120 hbox hb; have n0_ := Aside0.mk (blk_below (g := gb240) (o := .cells #[.bool t233, .int .i64 t234, .int .i64 t235, .int .i64 t236, .int .i64 t237] 39 (0, 0)) (by (with_reducible repeat (first | refine blk_drewN ?_ _ | refine blk_drew ?_ | refine blk_alloc ?_ _)); exact BK240.out) hb); have n1_ := Aside0.mk (blk_below (g := gb247) (o := .cells #[.bool t241, .int .i64 t242, .int .i64 t243, .int .i64 t244, .int .i64 t245] 39 (0, 0)) (by (with_reducible repeat (first | refine blk_drewN ?_ _ | refine blk_drew ?_ | refine blk_alloc ?_ _)); exact BK247.out) hb); have n2_ := Aside0.mk (blk_below (g := gb254) (o := .cells #[.bool t248, .int .i64 t249, .int .i64 t250, .int .i64 t251, .int .i64 t252] 39 (0, 0)) (by (with_reducible repeat (first | refine blk_drewN ?_ _ | refine blk_drew ?_ | refine blk_alloc ?_ _)); exact BK254.out) hb); have n3_ := Aside0.mk (below_step (by repeat (first | (with_reducible first | exact HB.out | apply below_alloc | apply pw_below_drewN | apply below_drew1 | refine below_set ?_ GE240.out | refine below_set ?_ GE247.out | refine below_set ?_ GE254.out) | exact HB.out)) hb); have n4_ := Aside0.mk (hbox); have n5_ := Aside0.mk ((by rw [hg]; exact (below_size (by repeat (first | (with_reducible first | exact HB.out | apply below_alloc | apply pw_below_drewN | apply below_drew1 | refine below_set ?_ GE240.out | refine below_set ?_ GE247.out | refine below_set ?_ GE254.out) | exact HB.out))) : w.heap.size ≤ gb262)); have n6_ := Aside0.mk ((by rw [hg]; exact (below_size (by repeat (first | (with_reducible first | exact HB.out | apply below_alloc | apply pw_below_drewN | apply below_drew1 | refine below_set ?_ GE240.out | refine below_set ?_ GE247.out | refine below_set ?_ GE254.out) | exact HB.out))) : w.heap.size ≤ gb262)); have n7_ := Aside0.mk ((by rw [hg]; exact Nat.ne_of_lt (blk_lt (g := gb240) (o := .cells #[.bool t233, .int .i64 t234, .int .i64 t235, .int .i64 t236, .int .i64 t237] 39 (0, 0)) (by (with_reducible repeat (first | refine blk_drewN ?_ _ | refine blk_drew ?_ | refine blk_alloc ?_ _)); exact BK240.out)) : gb240 ≠ gb262)); have n8_ := Aside0.mk ((by rw [hg]; exact Nat.ne_of_gt (blk_lt (g := gb240) (o := .cells #[.bool t233, .int .i64 t234, .int .i64 t235, .int .i64 t236, .int .i64 t237] 39 (0, 0)) (by (with_reducible repeat (first | refine blk_drewN ?_ _ | refine blk_drew ?_ | refine blk_alloc ?_ _)); exact BK240.out)) : gb262 ≠ gb240)); have n9_ := Aside0.mk ((by rw [hg]; exact Nat.ne_of_lt (blk_lt (g := gb247) (o := .cells #[.bool t241, .int .i64 t242, .int .i64 t243, .int .i64 t244, .int .i64 t245] 39 (0, 0)) (by (with_reducible repeat (first | refine blk_drewN ?_ _ | refine blk_drew ?_ | refine blk_alloc ?_ _)); exact BK247.out)) : gb247 ≠ gb262)); have n10_ := Aside0.mk ((by rw [hg]; exact Nat.ne_of_gt (blk_lt (g := gb247) (o := .cells #[.bool t241, .int .i64 t242, .int .i64 t243, .int .i64 t244, .int .i64 t245] 39 (0, 0)) (by (with_reducible repeat (first | refine blk_drewN ?_ _ | refine blk_drew ?_ | refine blk_alloc ?_ _)); exact BK247.out)) : gb262 ≠ gb247)); have n11_ := Aside0.mk ((by rw [hg]; exact Nat.ne_of_lt (blk_lt (g := gb254) (o := .cells #[.bool t248, .int .i64 t249, .int .i64 t250, .int .i64 t251, .int .i64 t252] 39 (0, 0)) (by (with_reducible repeat (first | refine blk_drewN ?_ _ | refine blk_drew ?_ | refine blk_alloc ?_ _)); exact BK254.out)) : gb254 ≠ gb262)); have n12_ := Aside0.mk ((by rw [hg]; exact Nat.ne_of_gt (blk_lt (g := gb254) (o := .cells #[.bool t248, .int .i64 t249, .int .i64 t250, .int .i64 t251, .int .i64 t252] 39 (0, 0)) (by (with_reducible repeat (first | refine blk_drewN ?_ _ | refine blk_drew ?_ | refine blk_alloc ?_ _)); exact BK254.out)) : gb262 ≠ gb254)); clear BK240; clear BK247; clear BK254; clear HB; have BK240 := n0_; have BK247 := n1_; have BK254 := n2_; have HB := n3_; have BK262 := n4_; have GW262 := n5_; have GE262 := n6_; have NB240_262 := n7_; have NB262_240 := n8_; have NB247_262 := n9_; have NB262_247 := n10_; have NB254_262 := n11_; have NB262_254 := n12_; clear n0_ n1_ n2_ n3_ n4_ n5_ n6_ n7_ n8_ n9_ n10_ n11_ n12_; clear hb hbox hg; have hnb121 := NB262_240.out; have hnc121 := NB240_262.out; have hnb122 := NB262_247.out; have hnc122 := NB247_262.out; have hnb123 := NB262_254.out; have hnc123 := NB254_262.out; have hcz124_0 : w120.cell? ⟨gb262, 0, none⟩ = some (.bool false) := (blk_cell BK262.out 0).trans rfl; have hcz124_1 : w120.cell? ⟨gb262, 1, none⟩ = some (.int .i64 0) := (blk_cell BK262.out 1).trans rfl; have hcz124_2 : w120.cell? ⟨gb262, 2, none⟩ = some (.int .i64 0) := (blk_cell BK262.out 2).trans rfl; have hcz124_3 : w120.cell? ⟨gb262, 3, none⟩ = some (.int .i64 0) := (blk_cell BK262.out 3).trans rfl; have hcz124_4 : w120.cell? ⟨gb262, 4, none⟩ = some (.int .i64 0) := (blk_cell BK262.out 4).trans rfl; have hfz124_0 := blk_frozen BK262.out 0; have hfz124_1 := blk_frozen BK262.out 1; have hfz124_2 := blk_frozen BK262.out 2; have hfz124_3 := blk_frozen BK262.out 3; have hfz124_4 := blk_frozen BK262.out 4) | ((with_reducible refine gate_callee (f := 29) rfl ?_); refine goesL_ (some 126) rfl rfl Try.func29 (by kernel_rfl) rfl #[.agg #[.bool t255, .int .i64 t256, .int .i64 t257, .int .i64 t258, .int .i64 t259], .int .i64 t260, .int .i64 t261] rfl (by (try simp only [List.map_toArray, List.map_cons, List.map_nil]); first | done | rfl | (simp only [List.length_drop, List.length_take]; rfl)) ?_; (with_reducible refine (impl_ProbeTime.calls kj27 t255 t256 t257 t258 t259 t260 t261 t263 t264 _ A116.out).mono ?_); rintro e w125 ⟨rfl, hb⟩; refine ⟨_, rfl, ?_⟩; have n0_ := Aside0.mk (blk_below (g := gb240) (o := .cells #[.bool t233, .int .i64 t234, .int .i64 t235, .int .i64 t236, .int .i64 t237] 39 (0, 0)) (by (with_reducible repeat (first | refine blk_drewN ?_ _ | refine blk_drew ?_ | refine blk_alloc ?_ _)); refine blk_far ?_ NB240_262.out _; (with_reducible repeat (first | refine blk_drewN ?_ _ | refine blk_drew ?_ | refine blk_alloc ?_ _)); refine blk_far ?_ NB240_262.out _; (with_reducible repeat (first | refine blk_drewN ?_ _ | refine blk_drew ?_ | refine blk_alloc ?_ _)); refine blk_far ?_ NB240_262.out _; (with_reducible repeat (first | refine blk_drewN ?_ _ | refine blk_drew ?_ | refine blk_alloc ?_ _)); refine blk_far ?_ NB240_262.out _; (with_reducible repeat (first | refine blk_drewN ?_ _ | refine blk_drew ?_ | refine blk_alloc ?_ _)); refine blk_far ?_ NB240_262.out _; (with_reducible repeat (first | refine blk_drewN ?_ _ | refine blk_drew ?_ | refine blk_alloc ?_ _)); exact BK240.out) hb); have n1_ := Aside0.mk (blk_below (g := gb247) (o := .cells #[.bool t241, .int .i64 t242, .int .i64 t243, .int .i64 t244, .int .i64 t245] 39 (0, 0)) (by (with_reducible repeat (first | refine blk_drewN ?_ _ | refine blk_drew ?_ | refine blk_alloc ?_ _)); refine blk_far ?_ NB247_262.out _; (with_reducible repeat (first | refine blk_drewN ?_ _ | refine blk_drew ?_ | refine blk_alloc ?_ _)); refine blk_far ?_ NB247_262.out _; (with_reducible repeat (first | refine blk_drewN ?_ _ | refine blk_drew ?_ | refine blk_alloc ?_ _)); refine blk_far ?_ NB247_262.out _; (with_reducible repeat (first | refine blk_drewN ?_ _ | refine blk_drew ?_ | refine blk_alloc ?_ _)); refine blk_far ?_ NB247_262.out _; (with_reducible repeat (first | refine blk_drewN ?_ _ | refine blk_drew ?_ | refine blk_alloc ?_ _)); refine blk_far ?_ NB247_262.out _; (with_reducible repeat (first | refine blk_drewN ?_ _ | refine blk_drew ?_ | refine blk_alloc ?_ _)); exact BK247.out) hb); have n2_ := Aside0.mk (blk_below (g := gb254) (o := .cells #[.bool t248, .int .i64 t249, .int .i64 t250, .int .i64 t251, .int .i64 t252] 39 (0, 0)) (by (with_reducible repeat (first | refine blk_drewN ?_ _ | refine blk_drew ?_ | refine blk_alloc ?_ _)); refine blk_far ?_ NB254_262.out _; (with_reducible repeat (first | refine blk_drewN ?_ _ | refine blk_drew ?_ | refine blk_alloc ?_ _)); refine blk_far ?_ NB254_262.out _; (with_reducible repeat (first | refine blk_drewN ?_ _ | refine blk_drew ?_ | refine blk_alloc ?_ _)); refine blk_far ?_ NB254_262.out _; (with_reducible repeat (first | refine blk_drewN ?_ _ | refine blk_drew ?_ | refine blk_alloc ?_ _)); refine blk_far ?_ NB254_262.out _; (with_reducible repeat (first | refine blk_drewN ?_ _ | refine blk_drew ?_ | refine blk_alloc ?_ _)); refine blk_far ?_ NB254_262.out _; (with_reducible repeat (first | refine blk_drewN ?_ _ | refine blk_drew ?_ | refine blk_alloc ?_ _)); exact BK254.out) hb); have n3_ := Aside0.mk (blk_below (g := gb262) (o := .cells #[.bool t255, .int .i64 t256, .int .i64 t257, .int .i64 t258, .int .i64 t259] 39 (0, 0)) (by (with_reducible repeat (first | refine blk_drewN ?_ _ | refine blk_drew ?_ | refine blk_alloc ?_ _)); refine blk_put (cs := #[.bool t255, .int .i64 t256, .int .i64 t257, .int .i64 t258, .int .i64 0]) ?_ 4 _ rfl; (with_reducible repeat (first | refine blk_drewN ?_ _ | refine blk_drew ?_ | refine blk_alloc ?_ _)); refine blk_put (cs := #[.bool t255, .int .i64 t256, .int .i64 t257, .int .i64 0, .int .i64 0]) ?_ 3 _ rfl; (with_reducible repeat (first | refine blk_drewN ?_ _ | refine blk_drew ?_ | refine blk_alloc ?_ _)); refine blk_put (cs := #[.bool t255, .int .i64 t256, .int .i64 0, .int .i64 0, .int .i64 0]) ?_ 2 _ rfl; (with_reducible repeat (first | refine blk_drewN ?_ _ | refine blk_drew ?_ | refine blk_alloc ?_ _)); refine blk_put (cs := #[.bool t255, .int .i64 0, .int .i64 0, .int .i64 0, .int .i64 0]) ?_ 1 _ rfl; (with_reducible repeat (first | refine blk_drewN ?_ _ | refine blk_drew ?_ | refine blk_alloc ?_ _)); refine blk_put (cs := #[.bool false, .int .i64 0, .int .i64 0, .int .i64 0, .int .i64 0]) ?_ 0 _ rfl; (with_reducible repeat (first | refine blk_drewN ?_ _ | refine blk_drew ?_ | refine blk_alloc ?_ _)); exact BK262.out) hb); have n4_ := Aside0.mk (below_step (by repeat (first | (with_reducible first | exact HB.out | apply below_alloc | apply pw_below_drewN | apply below_drew1 | refine below_set ?_ GE240.out | refine below_set ?_ GE247.out | refine below_set ?_ GE254.out | refine below_set ?_ GE262.out) | exact HB.out)) hb); clear BK240; clear BK247; clear BK254; clear BK262; clear HB; have BK240 := n0_; have BK247 := n1_; have BK254 := n2_; have BK262 := n3_; have HB := n4_; clear n0_ n1_ n2_ n3_ n4_; (try clear hb); (try clear hb2); (try clear hk); (try clear hi); have hcz126_0 : w125.cell? ⟨gb262, 0, none⟩ = some (.bool t255) := (blk_cell BK262.out 0).trans rfl; have hcz126_1 : w125.cell? ⟨gb262, 1, none⟩ = some (.int .i64 t256) := (blk_cell BK262.out 1).trans rfl; have hcz126_2 : w125.cell? ⟨gb262, 2, none⟩ = some (.int .i64 t257) := (blk_cell BK262.out 2).trans rfl; have hcz126_3 : w125.cell? ⟨gb262, 3, none⟩ = some (.int .i64 t258) := (blk_cell BK262.out 3).trans rfl; have hcz126_4 : w125.cell? ⟨gb262, 4, none⟩ = some (.int .i64 t259) := (blk_cell BK262.out 4).trans rfl; have hfz126_0 := blk_frozen BK262.out 0; have hfz126_1 := blk_frozen BK262.out 1; have hfz126_2 := blk_frozen BK262.out 2; have hfz126_3 := blk_frozen BK262.out 3; have hfz126_4 := blk_frozen BK262.out 4) | ((with_reducible refine gate_callee (f := 30) rfl ?_); refine goesL_ (some 133) rfl rfl Try.func30 (by kernel_rfl) rfl #[.agg #[.bool t255, .int .i64 t256, .int .i64 t257, .int .i64 t258, .int .i64 t259], .int .i64 t260, .int .i64 t261] rfl (by (try simp only [List.map_toArray, List.map_cons, List.map_nil]); first | done | rfl | (simp only [List.length_drop, List.length_take]; rfl)) ?_; (with_reducible refine (spec_ProbeTime.calls kj27 t255 t256 t257 t258 t259 t260 t261 t265 t266 _ A117.out).mono ?_); rintro e w127 ⟨rfl, hb⟩; refine ⟨_, rfl, ?_⟩; have n0_ := Aside0.mk (blk_below (g := gb240) (o := .cells #[.bool t233, .int .i64 t234, .int .i64 t235, .int .i64 t236, .int .i64 t237] 39 (0, 0)) (by (with_reducible repeat (first | refine blk_drewN ?_ _ | refine blk_drew ?_ | refine blk_alloc ?_ _)); exact BK240.out) hb); have n1_ := Aside0.mk (blk_below (g := gb247) (o := .cells #[.bool t241, .int .i64 t242, .int .i64 t243, .int .i64 t244, .int .i64 t245] 39 (0, 0)) (by (with_reducible repeat (first | refine blk_drewN ?_ _ | refine blk_drew ?_ | refine blk_alloc ?_ _)); exact BK247.out) hb); have n2_ := Aside0.mk (blk_below (g := gb254) (o := .cells #[.bool t248, .int .i64 t249, .int .i64 t250, .int .i64 t251, .int .i64 t252] 39 (0, 0)) (by (with_reducible repeat (first | refine blk_drewN ?_ _ | refine blk_drew ?_ | refine blk_alloc ?_ _)); exact BK254.out) hb); have n3_ := Aside0.mk (blk_below (g := gb262) (o := .cells #[.bool t255, .int .i64 t256, .int .i64 t257, .int .i64 t258, .int .i64 t259] 39 (0, 0)) (by (with_reducible repeat (first | refine blk_drewN ?_ _ | refine blk_drew ?_ | refine blk_alloc ?_ _)); exact BK262.out) hb); have n4_ := Aside0.mk (below_step (by repeat (first | (with_reducible first | exact HB.out | apply below_alloc | apply pw_below_drewN | apply below_drew1 | refine below_set ?_ GE240.out | refine below_set ?_ GE247.out | refine below_set ?_ GE254.out | refine below_set ?_ GE262.out) | exact HB.out)) hb); clear BK240; clear BK247; clear BK254; clear BK262; clear HB; have BK240 := n0_; have BK247 := n1_; have BK254 := n2_; have BK262 := n3_; have HB := n4_; clear n0_ n1_ n2_ n3_ n4_; (try clear hb); (try clear hb2); (try clear hk); (try clear hi)))
                go_ret
                exact ⟨by first | rfl | (simp [errW_none, errW_some] <;> rfl) | (simp [*, errW_none, errW_some] <;> rfl), by repeat (first | (with_reducible first | exact HB.out | apply below_alloc | apply pw_below_drewN | apply below_drew1 | refine below_set ?_ GE240.out | refine below_set ?_ GE247.out | refine below_set ?_ GE254.out | refine below_set ?_ GE262.out) | exact HB.out)⟩
              · rw [if_neg c118] at H
                have c118b0 : (t264 != t266) = false := by simpa using c118
                (try (have c118b1 : decide (t264 = t266) = true := by simpa using c118))
                (try (have c118b2 : (t264 == t266) = true := by simpa using c118))
                clear c118
                by_cases c128 : t263 = t265
                · rw [if_pos c128] at H
                  have c128b0 : (t263 == t265) = true := beq_iff_eq.mpr c128
                  have c128b1 : (t263 != t265) = false := bne_eq_false_iff_eq.mpr c128
                  clear c128
                  replace H := Option.bind_eq_some_iff.mp H
                  obtain ⟨⟨t267, t268⟩, A1290, H⟩ := H
                  replace H : (if t268 = true then (if t264 = true then (if t267 = (wrap64 (2 * t263)) then (some true) else (some false)) else (some (decide (t261 < 0)))) else (some true)) = some r := H
                  have A129 := Aside0.mk A1290
                  clear A1290
                  by_cases c130 : t268 = true
                  · subst c130
                    have H1 : (if t264 = true then (if t267 = (wrap64 (2 * t263)) then (some true) else (some false)) else (some (decide (t261 < 0)))) = some r := by rw [if_pos rfl] at H; exact H
                    clear H
                    have H := H1
                    clear H1
                    by_cases c131 : t264 = true
                    · subst c131
                      have H1 : (if t267 = (wrap64 (2 * t263)) then (some true) else (some false)) = some r := by rw [if_pos rfl] at H; exact H
                      clear H
                      have H := H1
                      clear H1
                      by_cases c132 : t267 = (wrap64 (2 * t263))
                      · rw [if_pos c132] at H
                        have c132b0 : (t267 == (wrap64 (2 * t263))) = true := beq_iff_eq.mpr c132
                        have c132b1 : (t267 != (wrap64 (2 * t263))) = false := bne_eq_false_iff_eq.mpr c132
                        clear c132
                        obtain rfl := Option.some.inj H
                        go_wp2_with (first | ((with_reducible refine gate_callee (f := 28) rfl ?_); refine goesL_ (some 118) rfl rfl Try.func28 (by kernel_rfl) rfl #[.slice A1 l1.length c1] rfl (by (try simp only [List.map_toArray, List.map_cons, List.map_nil]); first | done | rfl | (simp only [List.length_drop, List.length_take]; rfl)) ?_; (with_reducible refine (spec_DrawProbeTime.calls kj27 _ _ l1 t255 t256 t257 t258 t259 t260 t261 _ ?side1 ?side2 A115.out).mono ?_); (case side1 => repeat (first | exact (Kd.C_below HR1.out HB.out) | (with_reducible refine Kd.C_alloc ?_ _) | (with_reducible refine Kd.C_drewN ?_ _) | (with_reducible refine Kd.C_drew ?_))); (case side2 => exact HC1.out); rintro e w133 ⟨rfl, hb⟩; refine ⟨_, rfl, ?_⟩; have n0_ := Aside0.mk (blk_below (g := gb240) (o := .cells #[.bool t233, .int .i64 t234, .int .i64 t235, .int .i64 t236, .int .i64 t237] 39 (0, 0)) (by (with_reducible repeat (first | refine blk_drewN ?_ _ | refine blk_drew ?_ | refine blk_alloc ?_ _)); exact BK240.out) hb); have n1_ := Aside0.mk (blk_below (g := gb247) (o := .cells #[.bool t241, .int .i64 t242, .int .i64 t243, .int .i64 t244, .int .i64 t245] 39 (0, 0)) (by (with_reducible repeat (first | refine blk_drewN ?_ _ | refine blk_drew ?_ | refine blk_alloc ?_ _)); exact BK247.out) hb); have n2_ := Aside0.mk (blk_below (g := gb254) (o := .cells #[.bool t248, .int .i64 t249, .int .i64 t250, .int .i64 t251, .int .i64 t252] 39 (0, 0)) (by (with_reducible repeat (first | refine blk_drewN ?_ _ | refine blk_drew ?_ | refine blk_alloc ?_ _)); exact BK254.out) hb); have n3_ := Aside0.mk (below_step (by repeat (first | (with_reducible first | exact HB.out | apply below_alloc | apply pw_below_drewN | apply below_drew1 | refine below_set ?_ GE240.out | refine below_set ?_ GE247.out | refine below_set ?_ GE254.out) | exact HB.out)) hb); clear BK240; clear BK247; clear BK254; clear HB; have BK240 := n0_; have BK247 := n1_; have BK254 := n2_; have HB := n3_; clear n0_ n1_ n2_ n3_; (try clear hb); (try clear hb2); (try clear hk); (try clear hi)) | ((with_reducible refine gate_dst (N := 14) rfl ?_); refine box_event ?hg (N := 14) ?hd (cs := #[.bool false, .int .i64 0, .int .i64 0, .int .i64 0, .int .i64 0]) (t := 39) ?hr ?_; (case hd => rfl); (case hg => rfl); (case hr => first | (go_simp; done) | (go_simp; rfl)); intro gb262 hg w134 hbox hb; have n0_ := Aside0.mk (blk_below (g := gb240) (o := .cells #[.bool t233, .int .i64 t234, .int .i64 t235, .int .i64 t236, .int .i64 t237] 39 (0, 0)) (by (with_reducible repeat (first | refine blk_drewN ?_ _ | refine blk_drew ?_ | refine blk_alloc ?_ _)); exact BK240.out) hb); have n1_ := Aside0.mk (blk_below (g := gb247) (o := .cells #[.bool t241, .int .i64 t242, .int .i64 t243, .int .i64 t244, .int .i64 t245] 39 (0, 0)) (by (with_reducible repeat (first | refine blk_drewN ?_ _ | refine blk_drew ?_ | refine blk_alloc ?_ _)); exact BK247.out) hb); have n2_ := Aside0.mk (blk_below (g := gb254) (o := .cells #[.bool t248, .int .i64 t249, .int .i64 t250, .int .i64 t251, .int .i64 t252] 39 (0, 0)) (by (with_reducible repeat (first | refine blk_drewN ?_ _ | refine blk_drew ?_ | refine blk_alloc ?_ _)); exact BK254.out) hb); have n3_ := Aside0.mk (below_step (by repeat (first | (with_reducible first | exact HB.out | apply below_alloc | apply pw_below_drewN | apply below_drew1 | refine below_set ?_ GE240.out | refine below_set ?_ GE247.out | refine below_set ?_ GE254.out) | exact HB.out)) hb); have n4_ := Aside0.mk (hbox); have n5_ := Aside0.mk ((by rw [hg]; exact (below_size (by repeat (first | (with_reducible first | exact HB.out | apply below_alloc | apply pw_below_drewN | apply below_drew1 | refine below_set ?_ GE240.out | refine below_set ?_ GE247.out | refine below_set ?_ GE254.out) | exact HB.out))) : w.heap.size ≤ gb262)); have n6_ := Aside0.mk ((by rw [hg]; exact (below_size (by repeat (first | (with_reducible first | exact HB.out | apply below_alloc | apply pw_below_drewN | apply below_drew1 | refine below_set ?_ GE240.out | refine below_set ?_ GE247.out | refine below_set ?_ GE254.out) | exact HB.out))) : w.heap.size ≤ gb262)); have n7_ := Aside0.mk ((by rw [hg]; exact Nat.ne_of_lt (blk_lt (g := gb240) (o := .cells #[.bool t233, .int .i64 t234, .int .i64 t235, .int .i64 t236, .int .i64 t237] 39 (0, 0)) (by (with_reducible repeat (first | refine blk_drewN ?_ _ | refine blk_drew ?_ | refine blk_alloc ?_ _)); exact BK240.out)) : gb240 ≠ gb262)); have n8_ := Aside0.mk ((by rw [hg]; exact Nat.ne_of_gt (blk_lt (g := gb240) (o := .cells #[.bool t233, .int .i64 t234, .int .i64 t235, .int .i64 t236, .int .i64 t237] 39 (0, 0)) (by (with_reducible repeat (first | refine blk_drewN ?_ _ | refine blk_drew ?_ | refine blk_alloc ?_ _)); exact BK240.out)) : gb262 ≠ gb240)); have n9_ := Aside0.mk ((by rw [hg]; exact Nat.ne_of_lt (blk_lt (g := gb247) (o := .cells #[.bool t241, .int .i64 t242, .int .i64 t243, .int .i64 t244, .int .i64 t245] 39 (0, 0)) (by (with_reducible repeat (first | refine blk_drewN ?_ _ | refine blk_drew ?_ | refine blk_alloc ?_ _)); exact BK247.out)) : gb247 ≠ gb262)); have n10_ := Aside0.mk ((by rw [hg]; exact Nat.ne_of_gt (blk_lt (g := gb247) (o := .cells #[.bool t241, .int .i64 t242, .int .i64 t243, .int .i64 t244, .int .i64 t245] 39 (0, 0)) (by (with_reducible repeat (first | refine blk_drewN ?_ _ | refine blk_drew ?_ | refine blk_alloc ?_ _)); exact BK247.out)) : gb262 ≠ gb247)); have n11_ := Aside0.mk ((by rw [hg]; exact Nat.ne_of_lt (blk_lt (g := gb254) (o := .cells #[.bool t248, .int .i64 t249, .int .i64 t250, .int .i64 t251, .int .i64 t252] 39 (0, 0)) (by (with_reducible repeat (first | refine blk_drewN ?_ _ | refine blk_drew ?_ | refine blk_alloc ?_ _)); exact BK254.out)) : gb254 ≠ gb262)); have n12_ := Aside0.mk ((by rw [hg]; exact Nat.ne_of_gt (blk_lt (g := gb254) (o := .cells #[.bool t248, .int .i64 t249, .int .i64 t250, .int .i64 t251, .int .i64 t252] 39 (0, 0)) (by (with_reducible repeat (first | refine blk_drewN ?_ _ | refine blk_drew ?_ | refine blk_alloc ?_ _)); exact BK254.out)) : gb262 ≠ gb254)); clear BK240; clear BK247; clear BK254; clear HB; have BK240 := n0_; have BK247 := n1_; have BK254 := n2_; have HB := n3_; have BK262 := n4_; have GW262 := n5_; have GE262 := n6_; have NB240_262 := n7_; have NB262_240 := n8_; have NB247_262 := n9_; have NB262_247 := n10_; have NB254_262 := n11_; have NB262_254 := n12_; clear n0_ n1_ n2_ n3_ n4_ n5_ n6_ n7_ n8_ n9_ n10_ n11_ n12_; clear hb hbox hg; have hnb135 := NB262_240.out; have hnc135 := NB240_262.out; have hnb136 := NB262_247.out; have hnc136 := NB247_262.out; have hnb137 := NB262_254.out; have hnc137 := NB254_262.out; have hcz138_0 : w134.cell? ⟨gb262, 0, none⟩ = some (.bool false) := (blk_cell BK262.out 0).trans rfl; have hcz138_1 : w134.cell? ⟨gb262, 1, none⟩ = some (.int .i64 0) := (blk_cell BK262.out 1).trans rfl; have hcz138_2 : w134.cell? ⟨gb262, 2, none⟩ = some (.int .i64 0) := (blk_cell BK262.out 2).trans rfl; have hcz138_3 : w134.cell? ⟨gb262, 3, none⟩ = some (.int .i64 0) := (blk_cell BK262.out 3).trans rfl; have hcz138_4 : w134.cell? ⟨gb262, 4, none⟩ = some (.int .i64 0) := (blk_cell BK262.out 4).trans rfl; have hfz138_0 := blk_frozen BK262.out 0; have hfz138_1 := blk_frozen BK262.out 1; have hfz138_2 := blk_frozen BK262.out 2; have hfz138_3 := blk_frozen BK262.out 3; have hfz138_4 := blk_frozen BK262.out 4) | ((with_reducible refine gate_callee (f := 29) rfl ?_); refine goesL_ (some 126) rfl rfl Try.func29 (by kernel_rfl) rfl #[.agg #[.bool t255, .int .i64 t256, .int .i64 t257, .int .i64 t258, .int .i64 t259], .int .i64 t260, .int .i64 t261] rfl (by (try simp only [List.map_toArray, List.map_cons, List.map_nil]); first | done | rfl | (simp only [List.length_drop, List.length_take]; rfl)) ?_; (with_reducible refine (impl_ProbeTime.calls kj27 t255 t256 t257 t258 t259 t260 t261 t263 true _ A116.out).mono ?_); rintro e w139 ⟨rfl, hb⟩; refine ⟨_, rfl, ?_⟩; have n0_ := Aside0.mk (blk_below (g := gb240) (o := .cells #[.bool t233, .int .i64 t234, .int .i64 t235, .int .i64 t236, .int .i64 t237] 39 (0, 0)) (by (with_reducible repeat (first | refine blk_drewN ?_ _ | refine blk_drew ?_ | refine blk_alloc ?_ _)); refine blk_far ?_ NB240_262.out _; (with_reducible repeat (first | refine blk_drewN ?_ _ | refine blk_drew ?_ | refine blk_alloc ?_ _)); refine blk_far ?_ NB240_262.out _; (with_reducible repeat (first | refine blk_drewN ?_ _ | refine blk_drew ?_ | refine blk_alloc ?_ _)); refine blk_far ?_ NB240_262.out _; (with_reducible repeat (first | refine blk_drewN ?_ _ | refine blk_drew ?_ | refine blk_alloc ?_ _)); refine blk_far ?_ NB240_262.out _; (with_reducible repeat (first | refine blk_drewN ?_ _ | refine blk_drew ?_ | refine blk_alloc ?_ _)); refine blk_far ?_ NB240_262.out _; (with_reducible repeat (first | refine blk_drewN ?_ _ | refine blk_drew ?_ | refine blk_alloc ?_ _)); exact BK240.out) hb); have n1_ := Aside0.mk (blk_below (g := gb247) (o := .cells #[.bool t241, .int .i64 t242, .int .i64 t243, .int .i64 t244, .int .i64 t245] 39 (0, 0)) (by (with_reducible repeat (first | refine blk_drewN ?_ _ | refine blk_drew ?_ | refine blk_alloc ?_ _)); refine blk_far ?_ NB247_262.out _; (with_reducible repeat (first | refine blk_drewN ?_ _ | refine blk_drew ?_ | refine blk_alloc ?_ _)); refine blk_far ?_ NB247_262.out _; (with_reducible repeat (first | refine blk_drewN ?_ _ | refine blk_drew ?_ | refine blk_alloc ?_ _)); refine blk_far ?_ NB247_262.out _; (with_reducible repeat (first | refine blk_drewN ?_ _ | refine blk_drew ?_ | refine blk_alloc ?_ _)); refine blk_far ?_ NB247_262.out _; (with_reducible repeat (first | refine blk_drewN ?_ _ | refine blk_drew ?_ | refine blk_alloc ?_ _)); refine blk_far ?_ NB247_262.out _; (with_reducible repeat (first | refine blk_drewN ?_ _ | refine blk_drew ?_ | refine blk_alloc ?_ _)); exact BK247.out) hb); have n2_ := Aside0.mk (blk_below (g := gb254) (o := .cells #[.bool t248, .int .i64 t249, .int .i64 t250, .int .i64 t251, .int .i64 t252] 39 (0, 0)) (by (with_reducible repeat (first | refine blk_drewN ?_ _ | refine blk_drew ?_ | refine blk_alloc ?_ _)); refine blk_far ?_ NB254_262.out _; (with_reducible repeat (first | refine blk_drewN ?_ _ | refine blk_drew ?_ | refine blk_alloc ?_ _)); refine blk_far ?_ NB254_262.out _; (with_reducible repeat (first | refine blk_drewN ?_ _ | refine blk_drew ?_ | refine blk_alloc ?_ _)); refine blk_far ?_ NB254_262.out _; (with_reducible repeat (first | refine blk_drewN ?_ _ | refine blk_drew ?_ | refine blk_alloc ?_ _)); refine blk_far ?_ NB254_262.out _; (with_reducible repeat (first | refine blk_drewN ?_ _ | refine blk_drew ?_ | refine blk_alloc ?_ _)); refine blk_far ?_ NB254_262.out _; (with_reducible repeat (first | refine blk_drewN ?_ _ | refine blk_drew ?_ | refine blk_alloc ?_ _)); exact BK254.out) hb); have n3_ := Aside0.mk (blk_below (g := gb262) (o := .cells #[.bool t255, .int .i64 t256, .int .i64 t257, .int .i64 t258, .int .i64 t259] 39 (0, 0)) (by (with_reducible repeat (first | refine blk_drewN ?_ _ | refine blk_drew ?_ | refine blk_alloc ?_ _)); refine blk_put (cs := #[.bool t255, .int .i64 t256, .int .i64 t257, .int .i64 t258, .int .i64 0]) ?_ 4 _ rfl; (with_reducible repeat (first | refine blk_drewN ?_ _ | refine blk_drew ?_ | refine blk_alloc ?_ _)); refine blk_put (cs := #[.bool t255, .int .i64 t256, .int .i64 t257, .int .i64 0, .int .i64 0]) ?_ 3 _ rfl; (with_reducible repeat (first | refine blk_drewN ?_ _ | refine blk_drew ?_ | refine blk_alloc ?_ _)); refine blk_put (cs := #[.bool t255, .int .i64 t256, .int .i64 0, .int .i64 0, .int .i64 0]) ?_ 2 _ rfl; (with_reducible repeat (first | refine blk_drewN ?_ _ | refine blk_drew ?_ | refine blk_alloc ?_ _)); refine blk_put (cs := #[.bool t255, .int .i64 0, .int .i64 0, .int .i64 0, .int .i64 0]) ?_ 1 _ rfl; (with_reducible repeat (first | refine blk_drewN ?_ _ | refine blk_drew ?_ | refine blk_alloc ?_ _)); refine blk_put (cs := #[.bool false, .int .i64 0, .int .i64 0, .int .i64 0, .int .i64 0]) ?_ 0 _ rfl; (with_reducible repeat (first | refine blk_drewN ?_ _ | refine blk_drew ?_ | refine blk_alloc ?_ _)); exact BK262.out) hb); have n4_ := Aside0.mk (below_step (by repeat (first | (with_reducible first | exact HB.out | apply below_alloc | apply pw_below_drewN | apply below_drew1 | refine below_set ?_ GE240.out | refine below_set ?_ GE247.out | refine below_set ?_ GE254.out | refine below_set ?_ GE262.out) | exact HB.out)) hb); clear BK240; clear BK247; clear BK254; clear BK262; clear HB; have BK240 := n0_; have BK247 := n1_; have BK254 := n2_; have BK262 := n3_; have HB := n4_; clear n0_ n1_ n2_ n3_ n4_; (try clear hb); (try clear hb2); (try clear hk); (try clear hi); have hcz140_0 : w139.cell? ⟨gb262, 0, none⟩ = some (.bool t255) := (blk_cell BK262.out 0).trans rfl; have hcz140_1 : w139.cell? ⟨gb262, 1, none⟩ = some (.int .i64 t256) := (blk_cell BK262.out 1).trans rfl; have hcz140_2 : w139.cell? ⟨gb262, 2, none⟩ = some (.int .i64 t257) := (blk_cell BK262.out 2).trans rfl; have hcz140_3 : w139.cell? ⟨gb262, 3, none⟩ = some (.int .i64 t258) := (blk_cell BK262.out 3).trans rfl; have hcz140_4 : w139.cell? ⟨gb262, 4, none⟩ = some (.int .i64 t259) := (blk_cell BK262.out 4).trans rfl; have hfz140_0 := blk_frozen BK262.out 0; have hfz140_1 := blk_frozen BK262.out 1; have hfz140_2 := blk_frozen BK262.out 2; have hfz140_3 := blk_frozen BK262.out 3; have hfz140_4 := blk_frozen BK262.out 4) | ((with_reducible refine gate_callee (f := 30) rfl ?_); refine goesL_ (some 133) rfl rfl Try.func30 (by kernel_rfl) rfl #[.agg #[.bool t255, .int .i64 t256, .int .i64 t257, .int .i64 t258, .int .i64 t259], .int .i64 t260, .int .i64 t261] rfl (by (try simp only [List.map_toArray, List.map_cons, List.map_nil]); first | done | rfl | (simp only [List.length_drop, List.length_take]; rfl)) ?_; (with_reducible refine (spec_ProbeTime.calls kj27 t255 t256 t257 t258 t259 t260 t261 t265 t266 _ A117.out).mono ?_); rintro e w141 ⟨rfl, hb⟩; refine ⟨_, rfl, ?_⟩; have n0_ := Aside0.mk (blk_below (g := gb240) (o := .cells #[.bool t233, .int .i64 t234, .int .i64 t235, .int .i64 t236, .int .i64 t237] 39 (0, 0)) (by (with_reducible repeat (first | refine blk_drewN ?_ _ | refine blk_drew ?_ | refine blk_alloc ?_ _)); exact BK240.out) hb); have n1_ := Aside0.mk (blk_below (g := gb247) (o := .cells #[.bool t241, .int .i64 t242, .int .i64 t243, .int .i64 t244, .int .i64 t245] 39 (0, 0)) (by (with_reducible repeat (first | refine blk_drewN ?_ _ | refine blk_drew ?_ | refine blk_alloc ?_ _)); exact BK247.out) hb); have n2_ := Aside0.mk (blk_below (g := gb254) (o := .cells #[.bool t248, .int .i64 t249, .int .i64 t250, .int .i64 t251, .int .i64 t252] 39 (0, 0)) (by (with_reducible repeat (first | refine blk_drewN ?_ _ | refine blk_drew ?_ | refine blk_alloc ?_ _)); exact BK254.out) hb); have n3_ := Aside0.mk (blk_below (g := gb262) (o := .cells #[.bool t255, .int .i64 t256, .int .i64 t257, .int .i64 t258, .int .i64 t259] 39 (0, 0)) (by (with_reducible repeat (first | refine blk_drewN ?_ _ | refine blk_drew ?_ | refine blk_alloc ?_ _)); exact BK262.out) hb); have n4_ := Aside0.mk (below_step (by repeat (first | (with_reducible first | exact HB.out | apply below_alloc | apply pw_below_drewN | apply below_drew1 | refine below_set ?_ GE240.out | refine below_set ?_ GE247.out | refine below_set ?_ GE254.out | refine below_set ?_ GE262.out) | exact HB.out)) hb); clear BK240; clear BK247; clear BK254; clear BK262; clear HB; have BK240 := n0_; have BK247 := n1_; have BK254 := n2_; have BK262 := n3_; have HB := n4_; clear n0_ n1_ n2_ n3_ n4_; (try clear hb); (try clear hb2); (try clear hk); (try clear hi); have hcz142_0 : w141.cell? ⟨gb262, 0, none⟩ = some (.bool t255) := (blk_cell BK262.out 0).trans rfl; have hcz142_1 : w141.cell? ⟨gb262, 1, none⟩ = some (.int .i64 t256) := (blk_cell BK262.out 1).trans rfl; have hcz142_2 : w141.cell? ⟨gb262, 2, none⟩ = some (.int .i64 t257) := (blk_cell BK262.out 2).trans rfl; have hcz142_3 : w141.cell? ⟨gb262, 3, none⟩ = some (.int .i64 t258) := (blk_cell BK262.out 3).trans rfl; have hcz142_4 : w141.cell? ⟨gb262, 4, none⟩ = some (.int .i64 t259) := (blk_cell BK262.out 4).trans rfl; have hfz142_0 := blk_frozen BK262.out 0; have hfz142_1 := blk_frozen BK262.out 1; have hfz142_2 := blk_frozen BK262.out 2; have hfz142_3 := blk_frozen BK262.out 3; have hfz142_4 := blk_frozen BK262.out 4) | ((with_reducible refine gate_callee (f := 29) rfl ?_); refine goesL_ (some 149) rfl rfl Try.func29 (by kernel_rfl) rfl #[.agg #[.bool t255, .int .i64 t256, .int .i64 t257, .int .i64 t258, .int .i64 t259], .int .i64 t260, .int .i64 (wrap64 (t261 + 1))] rfl (by (try simp only [List.map_toArray, List.map_cons, List.map_nil]); first | done | rfl | (simp only [List.length_drop, List.length_take]; rfl)) ?_; (with_reducible refine (impl_ProbeTime.calls kj27 t255 t256 t257 t258 t259 t260 (wrap64 (t261 + 1)) t267 true _ A129.out).mono ?_); rintro e w143 ⟨rfl, hb⟩; refine ⟨_, rfl, ?_⟩; have n0_ := Aside0.mk (blk_below (g := gb240) (o := .cells #[.bool t233, .int .i64 t234, .int .i64 t235, .int .i64 t236, .int .i64 t237] 39 (0, 0)) (by (with_reducible repeat (first | refine blk_drewN ?_ _ | refine blk_drew ?_ | refine blk_alloc ?_ _)); exact BK240.out) hb); have n1_ := Aside0.mk (blk_below (g := gb247) (o := .cells #[.bool t241, .int .i64 t242, .int .i64 t243, .int .i64 t244, .int .i64 t245] 39 (0, 0)) (by (with_reducible repeat (first | refine blk_drewN ?_ _ | refine blk_drew ?_ | refine blk_alloc ?_ _)); exact BK247.out) hb); have n2_ := Aside0.mk (blk_below (g := gb254) (o := .cells #[.bool t248, .int .i64 t249, .int .i64 t250, .int .i64 t251, .int .i64 t252] 39 (0, 0)) (by (with_reducible repeat (first | refine blk_drewN ?_ _ | refine blk_drew ?_ | refine blk_alloc ?_ _)); exact BK254.out) hb); have n3_ := Aside0.mk (blk_below (g := gb262) (o := .cells #[.bool t255, .int .i64 t256, .int .i64 t257, .int .i64 t258, .int .i64 t259] 39 (0, 0)) (by (with_reducible repeat (first | refine blk_drewN ?_ _ | refine blk_drew ?_ | refine blk_alloc ?_ _)); exact BK262.out) hb); have n4_ := Aside0.mk (below_step (by repeat (first | (with_reducible first | exact HB.out | apply below_alloc | apply pw_below_drewN | apply below_drew1 | refine below_set ?_ GE240.out | refine below_set ?_ GE247.out | refine below_set ?_ GE254.out | refine below_set ?_ GE262.out) | exact HB.out)) hb); clear BK240; clear BK247; clear BK254; clear BK262; clear HB; have BK240 := n0_; have BK247 := n1_; have BK254 := n2_; have BK262 := n3_; have HB := n4_; clear n0_ n1_ n2_ n3_ n4_; (try clear hb); (try clear hb2); (try clear hk); (try clear hi)))
                        go_ret
                        exact ⟨by first | rfl | (simp [errW_none, errW_some] <;> rfl) | (simp [*, errW_none, errW_some] <;> rfl), by repeat (first | (with_reducible first | exact HB.out | apply below_alloc | apply pw_below_drewN | apply below_drew1 | refine below_set ?_ GE240.out | refine below_set ?_ GE247.out | refine below_set ?_ GE254.out | refine below_set ?_ GE262.out) | exact HB.out)⟩
                      · rw [if_neg c132] at H
                        have c132b0 : (t267 == (wrap64 (2 * t263))) = false := beq_eq_false_iff_ne.mpr c132
                        have c132b1 : (t267 != (wrap64 (2 * t263))) = true := bne_iff_ne.mpr c132
                        obtain rfl := Option.some.inj H
                        go_wp2_with (first | ((with_reducible refine gate_callee (f := 28) rfl ?_); refine goesL_ (some 118) rfl rfl Try.func28 (by kernel_rfl) rfl #[.slice A1 l1.length c1] rfl (by (try simp only [List.map_toArray, List.map_cons, List.map_nil]); first | done | rfl | (simp only [List.length_drop, List.length_take]; rfl)) ?_; (with_reducible refine (spec_DrawProbeTime.calls kj27 _ _ l1 t255 t256 t257 t258 t259 t260 t261 _ ?side1 ?side2 A115.out).mono ?_); (case side1 => repeat (first | exact (Kd.C_below HR1.out HB.out) | (with_reducible refine Kd.C_alloc ?_ _) | (with_reducible refine Kd.C_drewN ?_ _) | (with_reducible refine Kd.C_drew ?_))); (case side2 => exact HC1.out); rintro e w144 ⟨rfl, hb⟩; refine ⟨_, rfl, ?_⟩; have n0_ := Aside0.mk (blk_below (g := gb240) (o := .cells #[.bool t233, .int .i64 t234, .int .i64 t235, .int .i64 t236, .int .i64 t237] 39 (0, 0)) (by (with_reducible repeat (first | refine blk_drewN ?_ _ | refine blk_drew ?_ | refine blk_alloc ?_ _)); exact BK240.out) hb); have n1_ := Aside0.mk (blk_below (g := gb247) (o := .cells #[.bool t241, .int .i64 t242, .int .i64 t243, .int .i64 t244, .int .i64 t245] 39 (0, 0)) (by (with_reducible repeat (first | refine blk_drewN ?_ _ | refine blk_drew ?_ | refine blk_alloc ?_ _)); exact BK247.out) hb); have n2_ := Aside0.mk (blk_below (g := gb254) (o := .cells #[.bool t248, .int .i64 t249, .int .i64 t250, .int .i64 t251, .int .i64 t252] 39 (0, 0)) (by (with_reducible repeat (first | refine blk_drewN ?_ _ | refine blk_drew ?_ | refine blk_alloc ?_ _)); exact BK254.out) hb); have n3_ := Aside0.mk (below_step (by repeat (first | (with_reducible first | exact HB.out | apply below_alloc | apply pw_below_drewN | apply below_drew1 | refine below_set ?_ GE240.out | refine below_set ?_ GE247.out | refine below_set ?_ GE254.out) | exact HB.out)) hb); clear BK240; clear BK247; clear BK254; clear HB; have BK240 := n0_; have BK247 := n1_; have BK254 := n2_; have HB := n3_; clear n0_ n1_ n2_ n3_; (try clear hb); (try clear hb2); (try clear hk); (try clear hi)) | ((with_reducible refine gate_dst (N := 14) rfl ?_); refine box_event ?hg (N := 14) ?hd (cs := #[.bool false, .int .i64 0, .int .i64 0, .int .i64 0, .int .i64 0]) (t := 39) ?hr ?_; (case hd => rfl); (case hg => rfl); (case hr => first | (go_simp; done) | (go_simp; rfl)); intro gb262 hg w145 hbox hb; have n0_ := Aside0.mk (blk_below (g := gb240) (o := .cells #[.bool t233, .int .i64 t234, .int .i64 t235, .int .i64 t236, .int .i64 t237] 39 (0, 0)) (by (with_reducible repeat (first | refine blk_drewN ?_ _ | refine blk_drew ?_ | refine blk_alloc ?_ _)); exact BK240.out) hb); have n1_ := Aside0.mk (blk_below (g := gb247) (o := .cells #[.bool t241, .int .i64 t242, .int .i64 t243, .int .i64 t244, .int .i64 t245] 39 (0, 0)) (by (with_reducible repeat (first | refine blk_drewN ?_ _ | refine blk_drew ?_ | refine blk_alloc ?_ _)); exact BK247.out) hb); have n2_ := Aside0.mk (blk_below (g := gb254) (o := .cells #[.bool t248, .int .i64 t249, .int .i64 t250, .int .i64 t251, .int .i64 t252] 39 (0, 0)) (by (with_reducible repeat (first | refine blk_drewN ?_ _ | refine blk_drew ?_ | refine blk_alloc ?_ _)); exact BK254.out) hb); have n3_ := Aside0.mk (below_step (by repeat (first | (with_reducible first | exact HB.out | apply below_alloc | apply pw_below_drewN | apply below_drew1 | refine below_set ?_ GE240.out | refine below_set ?_ GE247.out | refine below_set ?_ GE254.out) | exact HB.out)) hb); have n4_ := Aside0.mk (hbox); have n5_ := Aside0.mk ((by rw [hg]; exact (below_size (by repeat (first | (with_reducible first | exact HB.out | apply below_alloc | apply pw_below_drewN | apply below_drew1 | refine below_set ?_ GE240.out | refine below_set ?_ GE247.out | refine below_set ?_ GE254.out) | exact HB.out))) : w.heap.size ≤ gb262)); have n6_ := Aside0.mk ((by rw [hg]; exact (below_size (by repeat (first | (with_reducible first | exact HB.out | apply below_alloc | apply pw_below_drewN | apply below_drew1 | refine below_set ?_ GE240.out | refine below_set ?_ GE247.out | refine below_set ?_ GE254.out) | exact HB.out))) : w.heap.size ≤ gb262)); have n7_ := Aside0.mk ((by rw [hg]; exact Nat.ne_of_lt (blk_lt (g := gb240) (o := .cells #[.bool t233, .int .i64 t234, .int .i64 t235, .int .i64 t236, .int .i64 t237] 39 (0, 0)) (by (with_reducible repeat (first | refine blk_drewN ?_ _ | refine blk_drew ?_ | refine blk_alloc ?_ _)); exact BK240.out)) : gb240 ≠ gb262)); have n8_ := Aside0.mk ((by rw [hg]; exact Nat.ne_of_gt (blk_lt (g := gb240) (o := .cells #[.bool t233, .int .i64 t234, .int .i64 t235, .int .i64 t236, .int .i64 t237] 39 (0, 0)) (by (with_reducible repeat (first | refine blk_drewN ?_ _ | refine blk_drew ?_ | refine blk_alloc ?_ _)); exact BK240.out)) : gb262 ≠ gb240)); have n9_ := Aside0.mk ((by rw [hg]; exact Nat.ne_of_lt (blk_lt (g := gb247) (o := .cells #[.bool t241, .int .i64 t242, .int .i64 t243, .int .i64 t244, .int .i64 t245] 39 (0, 0)) (by (with_reducible repeat (first | refine blk_drewN ?_ _ | refine blk_drew ?_ | refine blk_alloc ?_ _)); exact BK247.out)) : gb247 ≠ gb262)); have n10_ := Aside0.mk ((by rw [hg]; exact Nat.ne_of_gt (blk_lt (g := gb247) (o := .cells #[.bool t241, .int .i64 t242, .int .i64 t243, .int .i64 t244, .int .i64 t245] 39 (0, 0)) (by (with_reducible repeat (first | refine blk_drewN ?_ _ | refine blk_drew ?_ | refine blk_alloc ?_ _)); exact BK247.out)) : gb262 ≠ gb247)); have n11_ := Aside0.mk ((by rw [hg]; exact Nat.ne_of_lt (blk_lt (g := gb254) (o := .cells #[.bool t248, .int .i64 t249, .int .i64 t250, .int .i64 t251, .int .i64 t252] 39 (0, 0)) (by (with_reducible repeat (first | refine blk_drewN ?_ _ | refine blk_drew ?_ | refine blk_alloc ?_ _)); exact BK254.out)) : gb254 ≠ gb262)); have n12_ := Aside0.mk ((by rw [hg]; exact Nat.ne_of_gt (blk_lt (g := gb254) (o := .cells #[.bool t248, .int .i64 t249, .int .i64 t250, .int .i64 t251, .int .i64 t252] 39 (0, 0)) (by (with_reducible repeat (first | refine blk_drewN ?_ _ | refine blk_drew ?_ | refine blk_alloc ?_ _)); exact BK254.out)) : gb262 ≠ gb254)); clear BK240; clear BK247; clear BK254; clear HB; have BK240 := n0_; have BK247 := n1_; have BK254 := n2_; have HB := n3_; have BK262 := n4_; have GW262 := n5_; have GE262 := n6_; have NB240_262 := n7_; have NB262_240 := n8_; have NB247_262 := n9_; have NB262_247 := n10_; have NB254_262 := n11_; have NB262_254 := n12_; clear n0_ n1_ n2_ n3_ n4_ n5_ n6_ n7_ n8_ n9_ n10_ n11_ n12_; clear hb hbox hg; have hnb146 := NB262_240.out; have hnc146 := NB240_262.out; have hnb147 := NB262_247.out; have hnc147 := NB247_262.out; have hnb148 := NB262_254.out; have hnc148 := NB254_262.out; have hcz149_0 : w145.cell? ⟨gb262, 0, none⟩ = some (.bool false) := (blk_cell BK262.out 0).trans rfl; have hcz149_1 : w145.cell? ⟨gb262, 1, none⟩ = some (.int .i64 0) := (blk_cell BK262.out 1).trans rfl; have hcz149_2 : w145.cell? ⟨gb262, 2, none⟩ = some (.int .i64 0) := (blk_cell BK262.out 2).trans rfl; have hcz149_3 : w145.cell? ⟨gb262, 3, none⟩ = some (.int .i64 0) := (blk_cell BK262.out 3).trans rfl; have hcz149_4 : w145.cell? ⟨gb262, 4, none⟩ = some (.int .i64 0) := (blk_cell BK262.out 4).trans rfl; have hfz149_0 := blk_frozen BK262.out 0; have hfz149_1 := blk_frozen BK262.out 1; have hfz149_2 := blk_frozen BK262.out 2; have hfz149_3 := blk_frozen BK262.out 3; have hfz149_4 := blk_frozen BK262.out 4) | ((with_reducible refine gate_callee (f := 29) rfl ?_); refine goesL_ (some 126) rfl rfl Try.func29 (by kernel_rfl) rfl #[.agg #[.bool t255, .int .i64 t256, .int .i64 t257, .int .i64 t258, .int .i64 t259], .int .i64 t260, .int .i64 t261] rfl (by (try simp only [List.map_toArray, List.map_cons, List.map_nil]); first | done | rfl | (simp only [List.length_drop, List.length_take]; rfl)) ?_; (with_reducible refine (impl_ProbeTime.calls kj27 t255 t256 t257 t258 t259 t260 t261 t263 true _ A116.out).mono ?_); rintro e w150 ⟨rfl, hb⟩; refine ⟨_, rfl, ?_⟩; have n0_ := Aside0.mk (blk_below (g := gb240) (o := .cells #[.bool t233, .int .i64 t234, .int .i64 t235, .int .i64 t236, .int .i64 t237] 39 (0, 0)) (by (with_reducible repeat (first | refine blk_drewN ?_ _ | refine blk_drew ?_ | refine blk_alloc ?_ _)); refine blk_far ?_ NB240_262.out _; (with_reducible repeat (first | refine blk_drewN ?_ _ | refine blk_drew ?_ | refine blk_alloc ?_ _)); refine blk_far ?_ NB240_262.out _; (with_reducible repeat (first | refine blk_drewN ?_ _ | refine blk_drew ?_ | refine blk_alloc ?_ _)); refine blk_far ?_ NB240_262.out _; (with_reducible repeat (first | refine blk_drewN ?_ _ | refine blk_drew ?_ | refine blk_alloc ?_ _)); refine blk_far ?_ NB240_262.out _; (with_reducible repeat (first | refine blk_drewN ?_ _ | refine blk_drew ?_ | refine blk_alloc ?_ _)); refine blk_far ?_ NB240_262.out _; (with_reducible repeat (first | refine blk_drewN ?_ _ | refine blk_drew ?_ | refine blk_alloc ?_ _)); exact BK240.out) hb); have n1_ := Aside0.mk (blk_below (g := gb247) (o := .cells #[.bool t241, .int .i64 t242, .int .i64 t243, .int .i64 t244, .int .i64 t245] 39 (0, 0)) (by (with_reducible repeat (first | refine blk_drewN ?_ _ | refine blk_drew ?_ | refine blk_alloc ?_ _)); refine blk_far ?_ NB247_262.out _; (with_reducible repeat (first | refine blk_drewN ?_ _ | refine blk_drew ?_ | refine blk_alloc ?_ _)); refine blk_far ?_ NB247_262.out _; (with_reducible repeat (first | refine blk_drewN ?_ _ | refine blk_drew ?_ | refine blk_alloc ?_ _)); refine blk_far ?_ NB247_262.out _; (with_reducible repeat (first | refine blk_drewN ?_ _ | refine blk_drew ?_ | refine blk_alloc ?_ _)); refine blk_far ?_ NB247_262.out _; (with_reducible repeat (first | refine blk_drewN ?_ _ | refine blk_drew ?_ | refine blk_alloc ?_ _)); refine blk_far ?_ NB247_262.out _; (with_reducible repeat (first | refine blk_drewN ?_ _ | refine blk_drew ?_ | refine blk_alloc ?_ _)); exact BK247.out) hb); have n2_ := Aside0.mk (blk_below (g := gb254) (o := .cells #[.bool t248, .int .i64 t249, .int .i64 t250, .int .i64 t251, .int .i64 t252] 39 (0, 0)) (by (with_reducible repeat (first | refine blk_drewN ?_ _ | refine blk_drew ?_ | refine blk_alloc ?_ _)); refine blk_far ?_ NB254_262.out _; (with_reducible repeat (first | refine blk_drewN ?_ _ | refine blk_drew ?_ | refine blk_alloc ?_ _)); refine blk_far ?_ NB254_262.out _; (with_reducible repeat (first | refine blk_drewN ?_ _ | refine blk_drew ?_ | refine blk_alloc ?_ _)); refine blk_far ?_ NB254_262.out _; (with_reducible repeat (first | refine blk_drewN ?_ _ | refine blk_drew ?_ | refine blk_alloc ?_ _)); refine blk_far ?_ NB254_262.out _; (with_reducible repeat (first | refine blk_drewN ?_ _ | refine blk_drew ?_ | refine blk_alloc ?_ _)); refine blk_far ?_ NB254_262.out _; (with_reducible repeat (first | refine blk_drewN ?_ _ | refine blk_drew ?_ | refine blk_alloc ?_ _)); exact BK254.out) hb); have n3_ := Aside0.mk (blk_below (g := gb262) (o := .cells #[.bool t255, .int .i64 t256, .int .i64 t257, .int .i64 t258, .int .i64 t259] 39 (0, 0)) (by (with_reducible repeat (first | refine blk_drewN ?_ _ | refine blk_drew ?_ | refine blk_alloc ?_ _)); refine blk_put (cs := #[.bool t255, .int .i64 t256, .int .i64 t257, .int .i64 t258, .int .i64 0]) ?_ 4 _ rfl; (with_reducible repeat (first | refine blk_drewN ?_ _ | refine blk_drew ?_ | refine blk_alloc ?_ _)); refine blk_put (cs := #[.bool t255, .int .i64 t256, .int .i64 t257, .int .i64 0, .int .i64 0]) ?_ 3 _ rfl; (with_reducible repeat (first | refine blk_drewN ?_ _ | refine blk_drew ?_ | refine blk_alloc ?_ _)); refine blk_put (cs := #[.bool t255, .int .i64 t256, .int .i64 0, .int .i64 0, .int .i64 0]) ?_ 2 _ rfl; (with_reducible repeat (first | refine blk_drewN ?_ _ | refine blk_drew ?_ | refine blk_alloc ?_ _)); refine blk_put (cs := #[.bool t255, .int .i64 0, .int .i64 0, .int .i64 0, .int .i64 0]) ?_ 1 _ rfl; (with_reducible repeat (first | refine blk_drewN ?_ _ | refine blk_drew ?_ | refine blk_alloc ?_ _)); refine blk_put (cs := #[.bool false, .int .i64 0, .int .i64 0, .int .i64 0, .int .i64 0]) ?_ 0 _ rfl; (with_reducible repeat (first | refine blk_drewN ?_ _ | refine blk_drew ?_ | refine blk_alloc ?_ _)); exact BK262.out) hb); have n4_ := Aside0.mk (below_step (by repeat (first | (with_reducible first | exact HB.out | apply below_alloc | apply pw_below_drewN | apply below_drew1 | refine below_set ?_ GE240.out | refine below_set ?_ GE247.out | refine below_set ?_ GE254.out | refine below_set ?_ GE262.out) | exact HB.out)) hb); clear BK240; clear BK247; clear BK254; clear BK262; clear HB; have BK240 := n0_; have BK247 := n1_; have BK254 := n2_; have BK262 := n3_; have HB := n4_; clear n0_ n1_ n2_ n3_ n4_; (try clear hb); (try clear hb2); (try clear hk); (try clear hi); have hcz151_0 : w150.cell? ⟨gb262, 0, none⟩ = some (.bool t255) := (blk_cell BK262.out 0).trans rfl; have hcz151_1 : w150.cell? ⟨gb262, 1, none⟩ = some (.int .i64 t256) := (blk_cell BK262.out 1).trans rfl; have hcz151_2 : w150.cell? ⟨gb262, 2, none⟩ = some (.int .i64 t257) := (blk_cell BK262.out 2).trans rfl; have hcz151_3 : w150.cell? ⟨gb262, 3, none⟩ = some (.int .i64 t258) := (blk_cell BK262.out 3).trans rfl; have hcz151_4 : w150.cell? ⟨gb262, 4, none⟩ = some (.int .i64 t259) := (blk_cell BK262.out 4).trans rfl; have hfz151_0 := blk_frozen BK262.out 0; have hfz151_1 := blk_frozen BK262.out 1; have hfz151_2 := blk_frozen BK262.out 2; have hfz151_3 := blk_frozen BK262.out 3; have hfz151_4 := blk_frozen BK262.out 4) | ((with_reducible refine gate_callee (f := 30) rfl ?_); refine goesL_ (some 133) rfl rfl Try.func30 (by kernel_rfl) rfl #[.agg #[.bool t255, .int .i64 t256, .int .i64 t257, .int .i64 t258, .int .i64 t259], .int .i64 t260, .int .i64 t261] rfl (by (try simp only [List.map_toArray, List.map_cons, List.map_nil]); first | done | rfl | (simp only [List.length_drop, List.length_take]; rfl)) ?_; (with_reducible refine (spec_ProbeTime.calls kj27 t255 t256 t257 t258 t259 t260 t261 t265 t266 _ A117.out).mono ?_); rintro e w152 ⟨rfl, hb⟩; refine ⟨_, rfl, ?_⟩; have n0_ := Aside0.mk (blk_below (g := gb240) (o := .cells #[.bool t233, .int .i64 t234, .int .i64 t235, .int .i64 t236, .int .i64 t237] 39 (0, 0)) (by (with_reducible repeat (first | refine blk_drewN ?_ _ | refine blk_drew ?_ | refine blk_alloc ?_ _)); exact BK240.out) hb); have n1_ := Aside0.mk (blk_below (g := gb247) (o := .cells #[.bool t241, .int .i64 t242, .int .i64 t243, .int .i64 t244, .int .i64 t245] 39 (0, 0)) (by (with_reducible repeat (first | refine blk_drewN ?_ _ | refine blk_drew ?_ | refine blk_alloc ?_ _)); exact BK247.out) hb); have n2_ := Aside0.mk (blk_below (g := gb254) (o := .cells #[.bool t248, .int .i64 t249, .int .i64 t250, .int .i64 t251, .int .i64 t252] 39 (0, 0)) (by (with_reducible repeat (first | refine blk_drewN ?_ _ | refine blk_drew ?_ | refine blk_alloc ?_ _)); exact BK254.out) hb); have n3_ := Aside0.mk (blk_below (g := gb262) (o := .cells #[.bool t255, .int .i64 t256, .int .i64 t257, .int .i64 t258, .int .i64 t259] 39 (0, 0)) (by (with_reducible repeat (first | refine blk_drewN ?_ _ | refine blk_drew ?_ | refine blk_alloc ?_ _)); exact BK262.out) hb); have n4_ := Aside0.mk (below_step (by repeat (first | (with_reducible first | exact HB.out | apply below_alloc | apply pw_below_drewN | apply below_drew1 | refine below_set ?_ GE240.out | refine below_set ?_ GE247.out | refine below_set ?_ GE254.out | refine below_set ?_ GE262.out) | exact HB.out)) hb); clear BK240; clear BK247; clear BK254; clear BK262; clear HB; have BK240 := n0_; have BK247 := n1_; have BK254 := n2_; have BK262 := n3_; have HB := n4_; clear n0_ n1_ n2_ n3_ n4_; (try clear hb); (try clear hb2); (try clear hk); (try clear hi); have hcz153_0 : w152.cell? ⟨gb262, 0, none⟩ = some (.bool t255) := (blk_cell BK262.out 0).trans rfl; have hcz153_1 : w152.cell? ⟨gb262, 1, none⟩ = some (.int .i64 t256) := (blk_cell BK262.out 1).trans rfl; have hcz153_2 : w152.cell? ⟨gb262, 2, none⟩ = some (.int .i64 t257) := (blk_cell BK262.out 2).trans rfl; have hcz153_3 : w152.cell? ⟨gb262, 3, none⟩ = some (.int .i64 t258) := (blk_cell BK262.out 3).trans rfl; have hcz153_4 : w152.cell? ⟨gb262, 4, none⟩ = some (.int .i64 t259) := (blk_cell BK262.out 4).trans rfl; have hfz153_0 := blk_frozen BK262.out 0; have hfz153_1 := blk_frozen BK262.out 1; have hfz153_2 := blk_frozen BK262.out 2; have hfz153_3 := blk_frozen BK262.out 3; have hfz153_4 := blk_frozen BK262.out 4) | ((with_reducible refine gate_callee (f := 29) rfl ?_); refine goesL_ (some 149) rfl rfl Try.func29 (by kernel_rfl) rfl #[.agg #[.bool t255, .int .i64 t256, .int .i64 t257, .int .i64 t258, .int .i64 t259], .int .i64 t260, .int .i64 (wrap64 (t261 + 1))] rfl (by (try simp only [List.map_toArray, List.map_cons, List.map_nil]); first | done | rfl | (simp only [List.length_drop, List.length_take]; rfl)) ?_; (with_reducible refine (impl_ProbeTime.calls kj27 t255 t256 t257 t258 t259 t260 (wrap64 (t261 + 1)) t267 true _ A129.out).mono ?_); rintro e w154 ⟨rfl, hb⟩; refine ⟨_, rfl, ?_⟩; have n0_ := Aside0.mk (blk_below (g := gb240) (o := .cells #[.bool t233, .int .i64 t234, .int .i64 t235, .int .i64 t236, .int .i64 t237] 39 (0, 0)) (by (with_reducible repeat (first | refine blk_drewN ?_ _ | refine blk_drew ?_ | refine blk_alloc ?_ _)); exact BK240.out) hb); have n1_ := Aside0.mk (blk_below (g := gb247) (o := .cells #[.bool t241, .int .i64 t242, .int .i64 t243, .int .i64 t244, .int .i64 t245] 39 (0, 0)) (by (with_reducible repeat (first | refine blk_drewN ?_ _ | refine blk_drew ?_ | refine blk_alloc ?_ _)); exact BK247.out) hb); have n2_ := Aside0.mk (blk_below (g := gb254) (o := .cells #[.bool t248, .int .i64 t249, .int .i64 t250, .int .i64 t251, .int .i64 t252] 39 (0, 0)) (by (with_reducible repeat (first | refine blk_drewN ?_ _ | refine blk_drew ?_ | refine blk_alloc ?_ _)); exact BK254.out) hb); have n3_ := Aside0.mk (blk_below (g := gb262) (o := .cells #[.bool t255, .int .i64 t256, .int .i64 t257, .int .i64 t258, .int .i64 t259] 39 (0, 0)) (by (with_reducible repeat (first | refine blk_drewN ?_ _ | refine blk_drew ?_ | refine blk_alloc ?_ _)); exact BK262.out) hb); have n4_ := Aside0.mk (below_step (by repeat (first | (with_reducible first | exact HB.out | apply below_alloc | apply pw_below_drewN | apply below_drew1 | refine below_set ?_ GE240.out | refine below_set ?_ GE247.out | refine below_set ?_ GE254.out | refine below_set ?_ GE262.out) | exact HB.out)) hb); clear BK240; clear BK247; clear BK254; clear BK262; clear HB; have BK240 := n0_; have BK247 := n1_; have BK254 := n2_; have BK262 := n3_; have HB := n4_; clear n0_ n1_ n2_ n3_ n4_; (try clear hb); (try clear hb2); (try clear hk); (try clear hi)))
                        go_ret
                        exact ⟨by first | rfl | (simp [errW_none, errW_some] <;> rfl) | (simp [*, errW_none, errW_some] <;> rfl), by repeat (first | (with_reducible first | exact HB.out | apply below_alloc | apply pw_below_drewN | apply below_drew1 | refine below_set ?_ GE240.out | refine below_set ?_ GE247.out | refine below_set ?_ GE254.out | refine below_set ?_ GE262.out) | exact HB.out)⟩
                    · replace c131 := Bool.eq_false_iff.mpr c131
                      subst c131
                      have H1 : (some (decide (t261 < 0))) = some r := by rw [if_neg (show ¬ (false = true) by decide)] at H; exact H
                      clear H
                      have H := H1
                      clear H1
                      obtain rfl := Option.some.inj H
                      go_wp2_with (first | ((with_reducible refine gate_callee (f := 28) rfl ?_); refine goesL_ (some 118) rfl rfl Try.func28 (by kernel_rfl) rfl #[.slice A1 l1.length c1] rfl (by (try simp only [List.map_toArray, List.map_cons, List.map_nil]); first | done | rfl | (simp only [List.length_drop, List.length_take]; rfl)) ?_; (with_reducible refine (spec_DrawProbeTime.calls kj27 _ _ l1 t255 t256 t257 t258 t259 t260 t261 _ ?side1 ?side2 A115.out).mono ?_); (case side1 => repeat (first | exact (Kd.C_below HR1.out HB.out) | (with_reducible refine Kd.C_alloc ?_ _) | (with_reducible refine Kd.C_drewN ?_ _) | (with_reducible refine Kd.C_drew ?_))); (case side2 => exact HC1.out); rintro e w155 ⟨rfl, hb⟩; refine ⟨_, rfl, ?_⟩; have n0_ := Aside0.mk (blk_below (g := gb240) (o := .cells #[.bool t233, .int .i64 t234, .int .i64 t235, .int .i64 t236, .int .i64 t237] 39 (0, 0)) (by (with_reducible repeat (first | refine blk_drewN ?_ _ | refine blk_drew ?_ | refine blk_alloc ?_ _)); exact BK240.out) hb); have n1_ := Aside0.mk (blk_below (g := gb247) (o := .cells #[.bool t241, .int .i64 t242, .int .i64 t243, .int .i64 t244, .int .i64 t245] 39 (0, 0)) (by (with_reducible repeat (first | refine blk_drewN ?_ _ | refine blk_drew ?_ | refine blk_alloc ?_ _)); exact BK247.out) hb); have n2_ := Aside0.mk (blk_below (g := gb254) (o := .cells #[.bool t248, .int .i64 t249, .int .i64 t250, .int .i64 t251, .int .i64 t252] 39 (0, 0)) (by (with_reducible repeat (first | refine blk_drewN ?_ _ | refine blk_drew ?_ | refine blk_alloc ?_ _)); exact BK254.out) hb); have n3_ := Aside0.mk (below_step (by repeat (first | (with_reducible first | exact HB.out | apply below_alloc | apply pw_below_drewN | apply below_drew1 | refine below_set ?_ GE240.out | refine below_set ?_ GE247.out | refine below_set ?_ GE254.out) | exact HB.out)) hb); clear BK240; clear BK247; clear BK254; clear HB; have BK240 := n0_; have BK247 := n1_; have BK254 := n2_; have HB := n3_; clear n0_ n1_ n2_ n3_; (try clear hb); (try clear hb2); (try clear hk); (try clear hi)) | ((with_reducible refine gate_dst (N := 14) rfl ?_); refine box_event ?hg (N := 14) ?hd (cs := #[.bool false, .int .i64 0, .int .i64 0, .int .i64 0, .int .i64 0]) (t := 39) ?hr ?_; (case hd => rfl); (case hg => rfl); (case hr => first | (go_simp; done) | (go_simp; rfl)); intro gb262 hg w156 hbox hb; have n0_ := Aside0.mk (blk_below (g := gb240) (o := .cells #[.bool t233, .int .i64 t234, .int .i64 t235, .int .i64 t236, .int .i64 t237] 39 (0, 0)) (by (with_reducible repeat (first | refine blk_drewN ?_ _ | refine blk_drew ?_ | refine blk_alloc ?_ _)); exact BK240.out) hb); have n1_ := Aside0.mk (blk_below (g := gb247) (o := .cells #[.bool t241, .int .i64 t242, .int .i64 t243, .int .i64 t244, .int .i64 t245] 39 (0, 0)) (by (with_reducible repeat (first | refine blk_drewN ?_ _ | refine blk_drew ?_ | refine blk_alloc ?_ _)); exact BK247.out) hb); have n2_ := Aside0.mk (blk_below (g := gb254) (o := .cells #[.bool t248, .int .i64 t249, .int .i64 t250, .int .i64 t251, .int .i64 t252] 39 (0, 0)) (by (with_reducible repeat (first | refine blk_drewN ?_ _ | refine blk_drew ?_ | refine blk_alloc ?_ _)); exact BK254.out) hb); have n3_ := Aside0.mk (below_step (by repeat (first | (with_reducible first | exact HB.out | apply below_alloc | apply pw_below_drewN | apply below_drew1 | refine below_set ?_ GE240.out | refine below_set ?_ GE247.out | refine below_set ?_ GE254.out) | exact HB.out)) hb); have n4_ := Aside0.mk (hbox); have n5_ := Aside0.mk ((by rw [hg]; exact (below_size (by repeat (first | (with_reducible first | exact HB.out | apply below_alloc | apply pw_below_drewN | apply below_drew1 | refine below_set ?_ GE240.out | refine below_set ?_ GE247.out | refine below_set ?_ GE254.out) | exact HB.out))) : w.heap.size ≤ gb262)); have n6_ := Aside0.mk ((by rw [hg]; exact (below_size (by repeat (first | (with_reducible first | exact HB.out | apply below_alloc | apply pw_below_drewN | apply below_drew1 | refine below_set ?_ GE240.out | refine below_set ?_ GE247.out | refine below_set ?_ GE254.out) | exact HB.out))) : w.heap.size ≤ gb262)); have n7_ := Aside0.mk ((by rw [hg]; exact Nat.ne_of_lt (blk_lt (g := gb240) (o := .cells #[.bool t233, .int .i64 t234, .int .i64 t235, .int .i64 t236, .int .i64 t237] 39 (0, 0)) (by (with_reducible repeat (first | refine blk_drewN ?_ _ | refine blk_drew ?_ | refine blk_alloc ?_ _)); exact BK240.out)) : gb240 ≠ gb262)); have n8_ := Aside0.mk ((by rw [hg]; exact Nat.ne_of_gt (blk_lt (g := gb240) (o := .cells #[.bool t233, .int .i64 t234, .int .i64 t235, .int .i64 t236, .int .i64 t237] 39 (0, 0)) (by (with_reducible repeat (first | refine blk_drewN ?_ _ | refine blk_drew ?_ | refine blk_alloc ?_ _)); exact BK240.out)) : gb262 ≠ gb240)); have n9_ := Aside0.mk ((by rw [hg]; exact Nat.ne_of_lt (blk_lt (g := gb247) (o := .cells #[.bool t241, .int .i64 t242, .int .i64 t243, .int .i64 t244, .int .i64 t245] 39 (0, 0)) (by (with_reducible repeat (first | refine blk_drewN ?_ _ | refine blk_drew ?_ | refine blk_alloc ?_ _)); exact BK247.out)) : gb247 ≠ gb262)); have n10_ := Aside0.mk ((by rw [hg]; exact Nat.ne_of_gt (blk_lt (g := gb247) (o := .cells #[.bool t241, .int .i64 t242, .int .i64 t243, .int .i64 t244, .int .i64 t245] 39 (0, 0)) (by (with_reducible repeat (first | refine blk_drewN ?_ _ | refine blk_drew ?_ | refine blk_alloc ?_ _)); exact BK247.out)) : gb262 ≠ gb247)); have n11_ := Aside0.mk ((by rw [hg]; exact Nat.ne_of_lt (blk_lt (g := gb254) (o := .cells #[.bool t248, .int .i64 t249, .int .i64 t250, .int .i64 t251, .int .i64 t252] 39 (0, 0)) (by (with_reducible repeat (first | refine blk_drewN ?_ _ | refine blk_drew ?_ | refine blk_alloc ?_ _)); exact BK254.out)) : gb254 ≠ gb262)); have n12_ := Aside0.mk ((by rw [hg]; exact Nat.ne_of_gt (blk_lt (g := gb254) (o := .cells #[.bool t248, .int .i64 t249, .int .i64 t250, .int .i64 t251, .int .i64 t252] 39 (0, 0)) (by (with_reducible repeat (first | refine blk_drewN ?_ _ | refine blk_drew ?_ | refine blk_alloc ?_ _)); exact BK254.out)) : gb262 ≠ gb254)); clear BK240; clear BK247; clear BK254; clear HB; have BK240 := n0_; have BK247 := n1_; have BK254 := n2_; have HB := n3_; have BK262 := n4_; have GW262 := n5_; have GE262 := n6_; have NB240_262 := n7_; have NB262_240 := n8_; have NB247_262 := n9_; have NB262_247 := n10_; have NB254_262 := n11_; have NB262_254 := n12_; clear n0_ n1_ n2_ n3_ n4_ n5_ n6_ n7_ n8_ n9_ n10_ n11_ n12_; clear hb hbox hg; have hnb157 := NB262_240.out; have hnc157 := NB240_262.out; have hnb158 := NB262_247.out; have hnc158 := NB247_262.out; have hnb159 := NB262_254.out; have hnc159 := NB254_262.out; have hcz160_0 : w156.cell? ⟨gb262, 0, none⟩ = some (.bool false) := (blk_cell BK262.out 0).trans rfl; have hcz160_1 : w156.cell? ⟨gb262, 1, none⟩ = some (.int .i64 0) := (blk_cell BK262.out 1).trans rfl; have hcz160_2 : w156.cell? ⟨gb262, 2, none⟩ = some (.int .i64 0) := (blk_cell BK262.out 2).trans rfl; have hcz160_3 : w156.cell? ⟨gb262, 3, none⟩ = some (.int .i64 0) := (blk_cell BK262.out 3).trans rfl; have hcz160_4 : w156.cell? ⟨gb262, 4, none⟩ = some (.int .i64 0) := (blk_cell BK262.out 4).trans rfl; have hfz160_0 := blk_frozen BK262.out 0; have hfz160_1 := blk_frozen BK262.out 1; have hfz160_2 := blk_frozen BK262.out 2; have hfz160_3 := blk_frozen BK262.out 3; have hfz160_4 := blk_frozen BK262.out 4) | ((with_reducible refine gate_callee (f := 29) rfl ?_); refine goesL_ (some 126) rfl rfl Try.func29 (by kernel_rfl) rfl #[.agg #[.bool t255, .int .i64 t256, .int .i64 t257, .int .i64 t258, .int .i64 t259], .int .i64 t260, .int .i64 t261] rfl (by (try simp only [List.map_toArray, List.map_cons, List.map_nil]); first | done | rfl | (simp only [List.length_drop, List.length_take]; rfl)) ?_; (with_reducible refine (impl_ProbeTime.calls kj27 t255 t256 t257 t258 t259 t260 t261 t263 false _ A116.out).mono ?_); rintro e w161 ⟨rfl, hb⟩; refine ⟨_, rfl, ?_⟩; have n0_ := Aside0.mk (blk_below (g := gb240) (o := .cells #[.bool t233, .int .i64 t234, .int .i64 t235, .int .i64 t236, .int .i64 t237] 39 (0, 0)) (by (with_reducible repeat (first | refine blk_drewN ?_ _ | refine blk_drew ?_ | refine blk_alloc ?_ _)); refine blk_far ?_ NB240_262.out _; (with_reducible repeat (first | refine blk_drewN ?_ _ | refine blk_drew ?_ | refine blk_alloc ?_ _)); refine blk_far ?_ NB240_262.out _; (with_reducible repeat (first | refine blk_drewN ?_ _ | refine blk_drew ?_ | refine blk_alloc ?_ _)); refine blk_far ?_ NB240_262.out _; (with_reducible repeat (first | refine blk_drewN ?_ _ | refine blk_drew ?_ | refine blk_alloc ?_ _)); refine blk_far ?_ NB240_262.out _; (with_reducible repeat (first | refine blk_drewN ?_ _ | refine blk_drew ?_ | refine blk_alloc ?_ _)); refine blk_far ?_ NB240_262.out _; (with_reducible repeat (first | refine blk_drewN ?_ _ | refine blk_drew ?_ | refine blk_alloc ?_ _)); exact BK240.out) hb); have n1_ := Aside0.mk (blk_below (g := gb247) (o := .cells #[.bool t241, .int .i64 t242, .int .i64 t243, .int .i64 t244, .int .i64 t245] 39 (0, 0)) (by (with_reducible repeat (first | refine blk_drewN ?_ _ | refine blk_drew ?_ | refine blk_alloc ?_ _)); refine blk_far ?_ NB247_262.out _; (with_reducible repeat (first | refine blk_drewN ?_ _ | refine blk_drew ?_ | refine blk_alloc ?_ _)); refine blk_far ?_ NB247_262.out _; (with_reducible repeat (first | refine blk_drewN ?_ _ | refine blk_drew ?_ | refine blk_alloc ?_ _)); refine blk_far ?_ NB247_262.out _; (with_reducible repeat (first | refine blk_drewN ?_ _ | refine blk_drew ?_ | refine blk_alloc ?_ _)); refine blk_far ?_ NB247_262.out _; (with_reducible repeat (first | refine blk_drewN ?_ _ | refine blk_drew ?_ | refine blk_alloc ?_ _)); refine blk_far ?_ NB247_262.out _; (with_reducible repeat (first | refine blk_drewN ?_ _ | refine blk_drew ?_ | refine blk_alloc ?_ _)); exact BK247.out) hb); have n2_ := Aside0.mk (blk_below (g := gb254) (o := .cells #[.bool t248, .int .i64 t249, .int .i64 t250, .int .i64 t251, .int .i64 t252] 39 (0, 0)) (by (with_reducible repeat (first | refine blk_drewN ?_ _ | refine blk_drew ?_ | refine blk_alloc ?_ _)); refine blk_far ?_ NB254_262.out _; (with_reducible repeat (first | refine blk_drewN ?_ _ | refine blk_drew ?_ | refine blk_alloc ?_ _)); refine blk_far ?_ NB254_262.out _; (with_reducible repeat (first | refine blk_drewN ?_ _ | refine blk_drew ?_ | refine blk_alloc ?_ _)); refine blk_far ?_ NB254_262.out _; (with_reducible repeat (first | refine blk_drewN ?_ _ | refine blk_drew ?_ | refine blk_alloc ?_ _)); refine blk_far ?_ NB254_262.out _; (with_reducible repeat (first | refine blk_drewN ?_ _ | refine blk_drew ?_ | refine blk_alloc ?_ _)); refine blk_far ?_ NB254_262.out _; (with_reducible repeat (first | refine blk_drewN ?_ _ | refine blk_drew ?_ | refine blk_alloc ?_ _)); exact BK254.out) hb); have n3_ := Aside0.mk (blk_below (g := gb262) (o := .cells #[.bool t255, .int .i64 t256, .int .i64 t257, .int .i64 t258, .int .i64 t259] 39 (0, 0)) (by (with_reducible repeat (first | refine blk_drewN ?_ _ | refine blk_drew ?_ | refine blk_alloc ?_ _)); refine blk_put (cs := #[.bool t255, .int .i64 t256, .int .i64 t257, .int .i64 t258, .int .i64 0]) ?_ 4 _ rfl; (with_reducible repeat (first | refine blk_drewN ?_ _ | refine blk_drew ?_ | refine blk_alloc ?_ _)); refine blk_put (cs := #[.bool t255, .int .i64 t256, .int .i64 t257, .int .i64 0, .int .i64 0]) ?_ 3 _ rfl; (with_reducible repeat (first | refine blk_drewN ?_ _ | refine blk_drew ?_ | refine blk_alloc ?_ _)); refine blk_put (cs := #[.bool t255, .int .i64 t256, .int .i64 0, .int .i64 0, .int .i64 0]) ?_ 2 _ rfl; (with_reducible repeat (first | refine blk_drewN ?_ _ | refine blk_drew ?_ | refine blk_alloc ?_ _)); refine blk_put (cs := #[.bool t255, .int .i64 0, .int .i64 0, .int .i64 0, .int .i64 0]) ?_ 1 _ rfl; (with_reducible repeat (first | refine blk_drewN ?_ _ | refine blk_drew ?_ | refine blk_alloc ?_ _)); refine blk_put (cs := #[.bool false, .int .i64 0, .int .i64 0, .int .i64 0, .int .i64 0]) ?_ 0 _ rfl; (with_reducible repeat (first | refine blk_drewN ?_ _ | refine blk_drew ?_ | refine blk_alloc ?_ _)); exact BK262.out) hb); have n4_ := Aside0.mk (below_step (by repeat (first | (with_reducible first | exact HB.out | apply below_alloc | apply pw_below_drewN | apply below_drew1 | refine below_set ?_ GE240.out | refine below_set ?_ GE247.out | refine below_set ?_ GE254.out | refine below_set ?_ GE262.out) | exact HB.out)) hb); clear BK240; clear BK247; clear BK254; clear BK262; clear HB; have BK240 := n0_; have BK247 := n1_; have BK254 := n2_; have BK262 := n3_; have HB := n4_; clear n0_ n1_ n2_ n3_ n4_; (try clear hb); (try clear hb2); (try clear hk); (try clear hi); have hcz162_0 : w161.cell? ⟨gb262, 0, none⟩ = some (.bool t255) := (blk_cell BK262.out 0).trans rfl; have hcz162_1 : w161.cell? ⟨gb262, 1, none⟩ = some (.int .i64 t256) := (blk_cell BK262.out 1).trans rfl; have hcz162_2 : w161.cell? ⟨gb262, 2, none⟩ = some (.int .i64 t257) := (blk_cell BK262.out 2).trans rfl; have hcz162_3 : w161.cell? ⟨gb262, 3, none⟩ = some (.int .i64 t258) := (blk_cell BK262.out 3).trans rfl; have hcz162_4 : w161.cell? ⟨gb262, 4, none⟩ = some (.int .i64 t259) := (blk_cell BK262.out 4).trans rfl; have hfz162_0 := blk_frozen BK262.out 0; have hfz162_1 := blk_frozen BK262.out 1; have hfz162_2 := blk_frozen BK262.out 2; have hfz162_3 := blk_frozen BK262.out 3; have hfz162_4 := blk_frozen BK262.out 4) | ((with_reducible refine gate_callee (f := 30) rfl ?_); refine goesL_ (some 133) rfl rfl Try.func30 (by kernel_rfl) rfl #[.agg #[.bool t255, .int .i64 t256, .int .i64 t257, .int .i64 t258, .int .i64 t259], .int .i64 t260, .int .i64 t261] rfl (by (try simp only [List.map_toArray, List.map_cons, List.map_nil]); first | done | rfl | (simp only [List.length_drop, List.length_take]; rfl)) ?_; (with_reducible refine (spec_ProbeTime.calls kj27 t255 t256 t257 t258 t259 t260 t261 t265 t266 _ A117.out).mono ?_); rintro e w163 ⟨rfl, hb⟩; refine ⟨_, rfl, ?_⟩; have n0_ := Aside0.mk (blk_below (g := gb240) (o := .cells #[.bool t233, .int .i64 t234, .int .i64 t235, .int .i64 t236, .int .i64 t237] 39 (0, 0)) (by (with_reducible repeat (first | refine blk_drewN ?_ _ | refine blk_drew ?_ | refine blk_alloc ?_ _)); exact BK240.out) hb); have n1_ := Aside0.mk (blk_below (g := gb247) (o := .cells #[.bool t241, .int .i64 t242, .int .i64 t243, .int .i64 t244, .int .i64 t245] 39 (0, 0)) (by (with_reducible repeat (first | refine blk_drewN ?_ _ | refine blk_drew ?_ | refine blk_alloc ?_ _)); exact BK247.out) hb); have n2_ := Aside0.mk (blk_below (g := gb254) (o := .cells #[.bool t248, .int .i64 t249, .int .i64 t250, .int .i64 t251, .int .i64 t252] 39 (0, 0)) (by (with_reducible repeat (first | refine blk_drewN ?_ _ | refine blk_drew ?_ | refine blk_alloc ?_ _)); exact BK254.out) hb); have n3_ := Aside0.mk (blk_below (g := gb262) (o := .cells #[.bool t255, .int .i64 t256, .int .i64 t257, .int .i64 t258, .int .i64 t259] 39 (0, 0)) (by (with_reducible repeat (first | refine blk_drewN ?_ _ | refine blk_drew ?_ | refine blk_alloc ?_ _)); exact BK262.out) hb); have n4_ := Aside0.mk (below_step (by repeat (first | (with_reducible first | exact HB.out | apply below_alloc | apply pw_below_drewN | apply below_drew1 | refine below_set ?_ GE240.out | refine below_set ?_ GE247.out | refine below_set ?_ GE254.out | refine below_set ?_ GE262.out) | exact HB.out)) hb); clear BK240; clear BK247; clear BK254; clear BK262; clear HB; have BK240 := n0_; have BK247 := n1_; have BK254 := n2_; have BK262 := n3_; have HB := n4_; clear n0_ n1_ n2_ n3_ n4_; (try clear hb); (try clear hb2); (try clear hk); (try clear hi); have hcz164_0 : w163.cell? ⟨gb262, 0, none⟩ = some (.bool t255) := (blk_cell BK262.out 0).trans rfl; have hcz164_1 : w163.cell? ⟨gb262, 1, none⟩ = some (.int .i64 t256) := (blk_cell BK262.out 1).trans rfl; have hcz164_2 : w163.cell? ⟨gb262, 2, none⟩ = some (.int .i64 t257) := (blk_cell BK262.out 2).trans rfl; have hcz164_3 : w163.cell? ⟨gb262, 3, none⟩ = some (.int .i64 t258) := (blk_cell BK262.out 3).trans rfl; have hcz164_4 : w163.cell? ⟨gb262, 4, none⟩ = some (.int .i64 t259) := (blk_cell BK262.out 4).trans rfl; have hfz164_0 := blk_frozen BK262.out 0; have hfz164_1 := blk_frozen BK262.out 1; have hfz164_2 := blk_frozen BK262.out 2; have hfz164_3 := blk_frozen BK262.out 3; have hfz164_4 := blk_frozen BK262.out 4) | ((with_reducible refine gate_callee (f := 29) rfl ?_); refine goesL_ (some 149) rfl rfl Try.func29 (by kernel_rfl) rfl #[.agg #[.bool t255, .int .i64 t256, .int .i64 t257, .int .i64 t258, .int .i64 t259], .int .i64 t260, .int .i64 (wrap64 (t261 + 1))] rfl (by (try simp only [List.map_toArray, List.map_cons, List.map_nil]); first | done | rfl | (simp only [List.length_drop, List.length_take]; rfl)) ?_; (with_reducible refine (impl_ProbeTime.calls kj27 t255 t256 t257 t258 t259 t260 (wrap64 (t261 + 1)) t267 true _ A129.out).mono ?_); rintro e w165 ⟨rfl, hb⟩; refine ⟨_, rfl, ?_⟩; have n0_ := Aside0.mk (blk_below (g := gb240) (o := .cells #[.bool t233, .int .i64 t234, .int .i64 t235, .int .i64 t236, .int .i64 t237] 39 (0, 0)) (by (with_reducible repeat (first | refine blk_drewN ?_ _ | refine blk_drew ?_ | refine blk_alloc ?_ _)); exact BK240.out) hb); have n1_ := Aside0.mk (blk_below (g := gb247) (o := .cells #[.bool t241, .int .i64 t242, .int .i64 t243, .int .i64 t244, .int .i64 t245] 39 (0, 0)) (by (with_reducible repeat (first | refine blk_drewN ?_ _ | refine blk_drew ?_ | refine blk_alloc ?_ _)); exact BK247.out) hb); have n2_ := Aside0.mk (blk_below (g := gb254) (o := .cells #[.bool t248, .int .i64 t249, .int .i64 t250, .int .i64 t251, .int .i64 t252] 39 (0, 0)) (by (with_reducible repeat (first | refine blk_drewN ?_ _ | refine blk_drew ?_ | refine blk_alloc ?_ _)); exact BK254.out) hb); have n3_ := Aside0.mk (blk_below (g := gb262) (o := .cells #[.bool t255, .int .i64 t256, .int .i64 t257, .int .i64 t258, .int .i64 t259] 39 (0, 0)) (by (with_reducible repeat (first | refine blk_drewN ?_ _ | refine blk_drew ?_ | refine blk_alloc ?_ _)); exact BK262.out) hb); have n4_ := Aside0.mk (below_step (by repeat (first | (with_reducible first | exact HB.out | apply below_alloc | apply pw_below_drewN | apply below_drew1 | refine below_set ?_ GE240.out | refine below_set ?_ GE247.out | refine below_set ?_ GE254.out | refine below_set ?_ GE262.out) | exact HB.out)) hb); clear BK240; clear BK247; clear BK254; clear BK262; clear HB; have BK240 := n0_; have BK247 := n1_; have BK254 := n2_; have BK262 := n3_; have HB := n4_; clear n0_ n1_ n2_ n3_ n4_; (try clear hb); (try clear hb2); (try clear hk); (try clear hi)))
                      go_ret
                      exact ⟨by first | rfl | (simp [errW_none, errW_some] <;> rfl) | (simp [*, errW_none, errW_some] <;> rfl), by repeat (first | (with_reducible first | exact HB.out | apply below_alloc | apply pw_below_drewN | apply below_drew1 | refine below_set ?_ GE240.out | refine below_set ?_ GE247.out | refine below_set ?_ GE254.out | refine below_set ?_ GE262.out) | exact HB.out)⟩
                  · replace c130 := Bool.eq_false_iff.mpr c130
                    subst c130
                    have H1 : (some true) = some r := by rw [if_neg (show ¬ (false = true) by decide)] at H; exact H
                    clear H
                    have H := H1
                    clear H1
                    obtain rfl := Option.some.inj H
                    go_wp2_with (first | ((with_reducible refine gate_callee (f := 28) rfl ?_); refine goesL_ (some 118) rfl rfl Try.func28 (by kernel_rfl) rfl #[.slice A1 l1.length c1] rfl (by (try simp only [List.map_toArray, List.map_cons, List.map_nil]); first | done | rfl | (simp only [List.length_drop, List.length_take]; rfl)) ?_; (with_reducible refine (spec_DrawProbeTime.calls kj27 _ _ l1 t255 t256 t257 t258 t259 t260 t261 _ ?side1 ?side2 A115.out).mono ?_); (case side1 => repeat (first | exact (Kd.C_below HR1.out HB.out) | (with_reducible refine Kd.C_alloc ?_ _) | (with_reducible refine Kd.C_drewN ?_ _) | (with_reducible refine Kd.C_drew ?_))); (case side2 => exact HC1.out); rintro e w166 ⟨rfl, hb⟩; refine ⟨_, rfl, ?_⟩; have n0_ := Aside0.mk (blk_below (g := gb240) (o := .cells #[.bool t233, .int .i64 t234, .int .i64 t235, .int .i64 t236, .int .i64 t237] 39 (0, 0)) (by (with_reducible repeat (first | refine blk_drewN ?_ _ | refine blk_drew ?_ | refine blk_alloc ?_ _)); exact BK240.out) hb); have n1_ := Aside0.mk (blk_below (g := gb247) (o := .cells #[.bool t241, .int .i64 t242, .int .i64 t243, .int .i64 t244, .int .i64 t245] 39 (0, 0)) (by (with_reducible repeat (first | refine blk_drewN ?_ _ | refine blk_drew ?_ | refine blk_alloc ?_ _)); exact BK247.out) hb); have n2_ := Aside0.mk (blk_below (g := gb254) (o := .cells #[.bool t248, .int .i64 t249, .int .i64 t250, .int .i64 t251, .int .i64 t252] 39 (0, 0)) (by (with_reducible repeat (first | refine blk_drewN ?_ _ | refine blk_drew ?_ | refine blk_alloc ?_ _)); exact BK254.out) hb); have n3_ := Aside0.mk (below_step (by repeat (first | (with_reducible first | exact HB.out | apply below_alloc | apply pw_below_drewN | apply below_drew1 | refine below_set ?_ GE240.out | refine below_set ?_ GE247.out | refine below_set ?_ GE254.out) | exact HB.out)) hb); clear BK240; clear BK247; clear BK254; clear HB; have BK240 := n0_; have BK247 := n1_; have BK254 := n2_; have HB := n3_; clear n0_ n1_ n2_ n3_; (try clear hb); (try clear hb2); (try clear hk); (try clear hi)) | ((with_reducible refine gate_dst (N := 14) rfl ?_); refine box_event ?hg (N := 14) ?hd (cs := #[.bool false, .int .i64 0, .int .i64 0, .int .i64 0, .int .i64 0]) (t := 39) ?hr ?_; (case hd => rfl); (case hg => rfl); (case hr => first | (go_simp; done) | (go_simp; rfl)); intro gb262 hg w167 hbox hb; have n0_ := Aside0.mk (blk_below (g := gb240) (o := .cells #[.bool t233, .int .i64 t234, .int .i64 t235, .int .i64 t236, .int .i64 t237] 39 (0, 0)) (by (with_reducible repeat (first | refine blk_drewN ?_ _ | refine blk_drew ?_ | refine blk_alloc ?_ _)); exact BK240.out) hb); have n1_ := Aside0.mk (blk_below (g := gb247) (o := .cells #[.bool t241, .int .i64 t242, .int .i64 t243, .int .i64 t244, .int .i64 t245] 39 (0, 0)) (by (with_reducible repeat (first | refine blk_drewN ?_ _ | refine blk_drew ?_ | refine blk_alloc ?_ _)); exact BK247.out) hb); have n2_ := Aside0.mk (blk_below (g := gb254) (o := .cells #[.bool t248, .int .i64 t249, .int .i64 t250, .int .i64 t251, .int .i64 t252] 39 (0, 0)) (by (with_reducible repeat (first | refine blk_drewN ?_ _ | refine blk_drew ?_ | refine blk_alloc ?_ _)); exact BK254.out) hb); have n3_ := Aside0.mk (below_step (by repeat (first | (with_reducible first | exact HB.out | apply below_alloc | apply pw_below_drewN | apply below_drew1 | refine below_set ?_ GE240.out | refine below_set ?_ GE247.out | refine below_set ?_ GE254.out) | exact HB.out)) hb); have n4_ := Aside0.mk (hbox); have n5_ := Aside0.mk ((by rw [hg]; exact (below_size (by repeat (first | (with_reducible first | exact HB.out | apply below_alloc | apply pw_below_drewN | apply below_drew1 | refine below_set ?_ GE240.out | refine below_set ?_ GE247.out | refine below_set ?_ GE254.out) | exact HB.out))) : w.heap.size ≤ gb262)); have n6_ := Aside0.mk ((by rw [hg]; exact (below_size (by repeat (first | (with_reducible first | exact HB.out | apply below_alloc | apply pw_below_drewN | apply below_drew1 | refine below_set ?_ GE240.out | refine below_set ?_ GE247.out | refine below_set ?_ GE254.out) | exact HB.out))) : w.heap.size ≤ gb262)); have n7_ := Aside0.mk ((by rw [hg]; exact Nat.ne_of_lt (blk_lt (g := gb240) (o := .cells #[.bool t233, .int .i64 t234, .int .i64 t235, .int .i64 t236, .int .i64 t237] 39 (0, 0)) (by (with_reducible repeat (first | refine blk_drewN ?_ _ | refine blk_drew ?_ | refine blk_alloc ?_ _)); exact BK240.out)) : gb240 ≠ gb262)); have n8_ := Aside0.mk ((by rw [hg]; exact Nat.ne_of_gt (blk_lt (g := gb240) (o := .cells #[.bool t233, .int .i64 t234, .int .i64 t235, .int .i64 t236, .int .i64 t237] 39 (0, 0)) (by (with_reducible repeat (first | refine blk_drewN ?_ _ | refine blk_drew ?_ | refine blk_alloc ?_ _)); exact BK240.out)) : gb262 ≠ gb240)); have n9_ := Aside0.mk ((by rw [hg]; exact Nat.ne_of_lt (blk_lt (g := gb247) (o := .cells #[.bool t241, .int .i64 t242, .int .i64 t243, .int .i64 t244, .int .i64 t245] 39 (0, 0)) (by (with_reducible repeat (first | refine blk_drewN ?_ _ | refine blk_drew ?_ | refine blk_alloc ?_ _)); exact BK247.out)) : gb247 ≠ gb262)); have n10_ := Aside0.mk ((by rw [hg]; exact Nat.ne_of_gt (blk_lt (g := gb247) (o := .cells #[.bool t241, .int .i64 t242, .int .i64 t243, .int .i64 t244, .int .i64 t245] 39 (0, 0)) (by (with_reducible repeat (first | refine blk_drewN ?_ _ | refine blk_drew ?_ | refine blk_alloc ?_ _)); exact BK247.out)) : gb262 ≠ gb247)); have n11_ := Aside0.mk ((by rw [hg]; exact Nat.ne_of_lt (blk_lt (g := gb254) (o := .cells #[.bool t248, .int .i64 t249, .int .i64 t250, .int .i64 t251, .int .i64 t252] 39 (0, 0)) (by (with_reducible repeat (first | refine blk_drewN ?_ _ | refine blk_drew ?_ | refine blk_alloc ?_ _)); exact BK254.out)) : gb254 ≠ gb262)); have n12_ := Aside0.mk ((by rw [hg]; exact Nat.ne_of_gt (blk_lt (g := gb254) (o := .cells #[.bool t248, .int .i64 t249, .int .i64 t250, .int .i64 t251, .int .i64 t252] 39 (0, 0)) (by (with_reducible repeat (first | refine blk_drewN ?_ _ | refine blk_drew ?_ | refine blk_alloc ?_ _)); exact BK254.out)) : gb262 ≠ gb254)); clear BK240; clear BK247; clear BK254; clear HB; have BK240 := n0_; have BK247 := n1_; have BK254 := n2_; have HB := n3_; have BK262 := n4_; have GW262 := n5_; have GE262 := n6_; have NB240_262 := n7_; have NB262_240 := n8_; have NB247_262 := n9_; have NB262_247 := n10_; have NB254_262 := n11_; have NB262_254 := n12_; clear n0_ n1_ n2_ n3_ n4_ n5_ n6_ n7_ n8_ n9_ n10_ n11_ n12_; clear hb hbox hg; have hnb168 := NB262_240.out; have hnc168 := NB240_262.out; have hnb169 := NB262_247.out; have hnc169 := NB247_262.out; have hnb170 := NB262_254.out; have hnc170 := NB254_262.out; have hcz171_0 : w167.cell? ⟨gb262, 0, none⟩ = some (.bool false) := (blk_cell BK262.out 0).trans rfl; have hcz171_1 : w167.cell? ⟨gb262, 1, none⟩ = some (.int .i64 0) := (blk_cell BK262.out 1).trans rfl; have hcz171_2 : w167.cell? ⟨gb262, 2, none⟩ = some (.int .i64 0) := (blk_cell BK262.out 2).trans rfl; have hcz171_3 : w167.cell? ⟨gb262, 3, none⟩ = some (.int .i64 0) := (blk_cell BK262.out 3).trans rfl; have hcz171_4 : w167.cell? ⟨gb262, 4, none⟩ = some (.int .i64 0) := (blk_cell BK262.out 4).trans rfl; have hfz171_0 := blk_frozen BK262.out 0; have hfz171_1 := blk_frozen BK262.out 1; have hfz171_2 := blk_frozen BK262.out 2; have hfz171_3 := blk_frozen BK262.out 3; have hfz171_4 := blk_frozen BK262.out 4) | ((with_reducible refine gate_callee (f := 29) rfl ?_); refine goesL_ (some 126) rfl rfl Try.func29 (by kernel_rfl) rfl #[.agg #[.bool t255, .int .i64 t256, .int .i64 t257, .int .i64 t258, .int .i64 t259], .int .i64 t260, .int .i64 t261] rfl (by (try simp only [List.map_toArray, List.map_cons, List.map_nil]); first | done | rfl | (simp only [List.length_drop, List.length_take]; rfl)) ?_; (with_reducible refine (impl_ProbeTime.calls kj27 t255 t256 t257 t258 t259 t260 t261 t263 t264 _ A116.out).mono ?_); rintro e w172 ⟨rfl, hb⟩; refine ⟨_, rfl, ?_⟩; have n0_ := Aside0.mk (blk_below (g := gb240) (o := .cells #[.bool t233, .int .i64 t234, .int .i64 t235, .int .i64 t236, .int .i64 t237] 39 (0, 0)) (by (with_reducible repeat (first | refine blk_drewN ?_ _ | refine blk_drew ?_ | refine blk_alloc ?_ _)); refine blk_far ?_ NB240_262.out _; (with_reducible repeat (first | refine blk_drewN ?_ _ | refine blk_drew ?_ | refine blk_alloc ?_ _)); refine blk_far ?_ NB240_262.out _; (with_reducible repeat (first | refine blk_drewN ?_ _ | refine blk_drew ?_ | refine blk_alloc ?_ _)); refine blk_far ?_ NB240_262.out _; (with_reducible repeat (first | refine blk_drewN ?_ _ | refine blk_drew ?_ | refine blk_alloc ?_ _)); refine blk_far ?_ NB240_262.out _; (with_reducible repeat (first | refine blk_drewN ?_ _ | refine blk_drew ?_ | refine blk_alloc ?_ _)); refine blk_far ?_ NB240_262.out _; (with_reducible repeat (first | refine blk_drewN ?_ _ | refine blk_drew ?_ | refine blk_alloc ?_ _)); exact BK240.out) hb); have n1_ := Aside0.mk (blk_below (g := gb247) (o := .cells #[.bool t241, .int .i64 t242, .int .i64 t243, .int .i64 t244, .int .i64 t245] 39 (0, 0)) (by (with_reducible repeat (first | refine blk_drewN ?_ _ | refine blk_drew ?_ | refine blk_alloc ?_ _)); refine blk_far ?_ NB247_262.out _; (with_reducible repeat (first | refine blk_drewN ?_ _ | refine blk_drew ?_ | refine blk_alloc ?_ _)); refine blk_far ?_ NB247_262.out _; (with_reducible repeat (first | refine blk_drewN ?_ _ | refine blk_drew ?_ | refine blk_alloc ?_ _)); refine blk_far ?_ NB247_262.out _; (with_reducible repeat (first | refine blk_drewN ?_ _ | refine blk_drew ?_ | refine blk_alloc ?_ _)); refine blk_far ?_ NB247_262.out _; (with_reducible repeat (first | refine blk_drewN ?_ _ | refine blk_drew ?_ | refine blk_alloc ?_ _)); refine blk_far ?_ NB247_262.out _; (with_reducible repeat (first | refine blk_drewN ?_ _ | refine blk_drew ?_ | refine blk_alloc ?_ _)); exact BK247.out) hb); have n2_ := Aside0.mk (blk_below (g := gb254) (o := .cells #[.bool t248, .int .i64 t249, .int .i64 t250, .int .i64 t251, .int .i64 t252] 39 (0, 0)) (by (with_reducible repeat (first | refine blk_drewN ?_ _ | refine blk_drew ?_ | refine blk_alloc ?_ _)); refine blk_far ?_ NB254_262.out _; (with_reducible repeat (first | refine blk_drewN ?_ _ | refine blk_drew ?_ | refine blk_alloc ?_ _)); refine blk_far ?_ NB254_262.out _; (with_reducible repeat (first | refine blk_drewN ?_ _ | refine blk_drew ?_ | refine blk_alloc ?_ _)); refine blk_far ?_ NB254_262.out _; (with_reducible repeat (first | refine blk_drewN ?_ _ | refine blk_drew ?_ | refine blk_alloc ?_ _)); refine blk_far ?_ NB254_262.out _; (with_reducible repeat (first | refine blk_drewN ?_ _ | refine blk_drew ?_ | refine blk_alloc ?_ _)); refine blk_far ?_ NB254_262.out _; (with_reducible repeat (first | refine blk_drewN ?_ _ | refine blk_drew ?_ | refine blk_alloc ?_ _)); exact BK254.out) hb); have n3_ := Aside0.mk (blk_below (g := gb262) (o := .cells #[.bool t255, .int .i64 t256, .int .i64 t257, .int .i64 t258, .int .i64 t259] 39 (0, 0)) (by (with_reducible repeat (first | refine blk_drewN ?_ _ | refine blk_drew ?_ | refine blk_alloc ?_ _)); refine blk_put (cs := #[.bool t255, .int .i64 t256, .int .i64 t257, .int .i64 t258, .int .i64 0]) ?_ 4 _ rfl; (with_reducible repeat (first | refine blk_drewN ?_ _ | refine blk_drew ?_ | refine blk_alloc ?_ _)); refine blk_put (cs := #[.bool t255, .int .i64 t256, .int .i64 t257, .int .i64 0, .int .i64 0]) ?_ 3 _ rfl; (with_reducible repeat (first | refine blk_drewN ?_ _ | refine blk_drew ?_ | refine blk_alloc ?_ _)); refine blk_put (cs := #[.bool t255, .int .i64 t256, .int .i64 0, .int .i64 0, .int .i64 0]) ?_ 2 _ rfl; (with_reducible repeat (first | refine blk_drewN ?_ _ | refine blk_drew ?_ | refine blk_alloc ?_ _)); refine blk_put (cs := #[.bool t255, .int .i64 0, .int .i64 0, .int .i64 0, .int .i64 0]) ?_ 1 _ rfl; (with_reducible repeat (first | refine blk_drewN ?_ _ | refine blk_drew ?_ | refine blk_alloc ?_ _)); refine blk_put (cs := #[.bool false, .int .i64 0, .int .i64 0, .int .i64 0, .int .i64 0]) ?_ 0 _ rfl; (with_reducible repeat (first | refine blk_drewN ?_ _ | refine blk_drew ?_ | refine blk_alloc ?_ _)); exact BK262.out) hb); have n4_ := Aside0.mk (below_step (by repeat (first | (with_reducible first | exact HB.out | apply below_alloc | apply pw_below_drewN | apply below_drew1 | refine below_set ?_ GE240.out | refine below_set ?_ GE247.out | refine below_set ?_ GE254.out | refine below_set ?_ GE262.out) | exact HB.out)) hb); clear BK240; clear BK247; clear BK254; clear BK262; clear HB; have BK240 := n0_; have BK247 := n1_; have BK254 := n2_; have BK262 := n3_; have HB := n4_; clear n0_ n1_ n2_ n3_ n4_; (try clear hb); (try clear hb2); (try clear hk); (try clear hi); have hcz173_0 : w172.cell? ⟨gb262, 0, none⟩ = some (.bool t255) := (blk_cell BK262.out 0).trans rfl; have hcz173_1 : w172.cell? ⟨gb262, 1, none⟩ = some (.int .i64 t256) := (blk_cell BK262.out 1).trans rfl; have hcz173_2 : w172.cell? ⟨gb262, 2, none⟩ = some (.int .i64 t257) := (blk_cell BK262.out 2).trans rfl; have hcz173_3 : w172.cell? ⟨gb262, 3, none⟩ = some (.int .i64 t258) := (blk_cell BK262.out 3).trans rfl; have hcz173_4 : w172.cell? ⟨gb262, 4, none⟩ = some (.int .i64 t259) := (blk_cell BK262.out 4).trans rfl; have hfz173_0 := blk_frozen BK262.out 0; have hfz173_1 := blk_frozen BK262.out 1; have hfz173_2 := blk_frozen BK262.out 2; have hfz173_3 := blk_frozen BK262.out 3; have hfz173_4 := blk_frozen BK262.out 4) | ((with_reducible refine gate_callee (f := 30) rfl ?_); refine goesL_ (some 133) rfl rfl Try.func30 (by kernel_rfl) rfl #[.agg #[.bool t255, .int .i64 t256, .int .i64 t257, .int .i64 t258, .int .i64 t259], .int .i64 t260, .int .i64 t261] rfl (by (try simp only [List.map_toArray, List.map_cons, List.map_nil]); first | done | rfl | (simp only [List.length_drop, List.length_take]; rfl)) ?_; (with_reducible refine (spec_ProbeTime.calls kj27 t255 t256 t257 t258 t259 t260 t261 t265 t266 _ A117.out).mono ?_); rintro e w174 ⟨rfl, hb⟩; refine ⟨_, rfl, ?_⟩; have n0_ := Aside0.mk (blk_below (g := gb240) (o := .cells #[.bool t233, .int .i64 t234, .int .i64 t235, .int .i64 t236, .int .i64 t237] 39 (0, 0)) (by (with_reducible repeat (first | refine blk_drewN ?_ _ | refine blk_drew ?_ | refine blk_alloc ?_ _)); exact BK240.out) hb); have n1_ := Aside0.mk (blk_below (g := gb247) (o := .cells #[.bool t241, .int .i64 t242, .int .i64 t243, .int .i64 t244, .int .i64 t245] 39 (0, 0)) (by (with_reducible repeat (first | refine blk_drewN ?_ _ | refine blk_drew ?_ | refine blk_alloc ?_ _)); exact BK247.out) hb); have n2_ := Aside0.mk (blk_below (g := gb254) (o := .cells #[.bool t248, .int .i64 t249, .int .i64 t250, .int .i64 t251, .int .i64 t252] 39 (0, 0)) (by (with_reducible repeat (first | refine blk_drewN ?_ _ | refine blk_drew ?_ | refine blk_alloc ?_ _)); exact BK254.out) hb); have n3_ := Aside0.mk (blk_below (g := gb262) (o := .cells #[.bool t255, .int .i64 t256, .int .i64 t257, .int .i64 t258, .int .i64 t259] 39 (0, 0)) (by (with_reducible repeat (first | refine blk_drewN ?_ _ | refine blk_drew ?_ | refine blk_alloc ?_ _)); exact BK262.out) hb); have n4_ := Aside0.mk (below_step (by repeat (first | (with_reducible first | exact HB.out | apply below_alloc | apply pw_below_drewN | apply below_drew1 | refine below_set ?_ GE240.out | refine below_set ?_ GE247.out | refine below_set ?_ GE254.out | refine below_set ?_ GE262.out) | exact HB.out)) hb); clear BK240; clear BK247; clear BK254; clear BK262; clear HB; have BK240 := n0_; have BK247 := n1_; have BK254 := n2_; have BK262 := n3_; have HB := n4_; clear n0_ n1_ n2_ n3_ n4_; (try clear hb); (try clear hb2); (try clear hk); (try clear hi); have hcz175_0 : w174.cell? ⟨gb262, 0, none⟩ = some (.bool t255) := (blk_cell BK262.out 0).trans rfl; have hcz175_1 : w174.cell? ⟨gb262, 1, none⟩ = some (.int .i64 t256) := (blk_cell BK262.out 1).trans rfl; have hcz175_2 : w174.cell? ⟨gb262, 2, none⟩ = some (.int .i64 t257) := (blk_cell BK262.out 2).trans rfl; have hcz175_3 : w174.cell? ⟨gb262, 3, none⟩ = some (.int .i64 t258) := (blk_cell BK262.out 3).trans rfl; have hcz175_4 : w174.cell? ⟨gb262, 4, none⟩ = some (.int .i64 t259) := (blk_cell BK262.out 4).trans rfl; have hfz175_0 := blk_frozen BK262.out 0; have hfz175_1 := blk_frozen BK262.out 1; have hfz175_2 := blk_frozen BK262.out 2; have hfz175_3 := blk_frozen BK262.out 3; have hfz175_4 := blk_frozen BK262.out 4) | ((with_reducible refine gate_callee (f := 29) rfl ?_); refine goesL_ (some 149) rfl rfl Try.func29 (by kernel_rfl) rfl #[.agg #[.bool t255, .int .i64 t256, .int .i64 t257, .int .i64 t258, .int .i64 t259], .int .i64 t260, .int .i64 (wrap64 (t261 + 1))] rfl (by (try simp only [List.map_toArray, List.map_cons, List.map_nil]); first | done | rfl | (simp only [List.length_drop, List.length_take]; rfl)) ?_; (with_reducible refine (impl_ProbeTime.calls kj27 t255 t256 t257 t258 t259 t260 (wrap64 (t261 + 1)) t267 false _ A129.out).mono ?_); rintro e w176 ⟨rfl, hb⟩; refine ⟨_, rfl, ?_⟩; have n0_ := Aside0.mk (blk_below (g := gb240) (o := .cells #[.bool t233, .int .i64 t234, .int .i64 t235, .int .i64 t236, .int .i64 t237] 39 (0, 0)) (by (with_reducible repeat (first | refine blk_drewN ?_ _ | refine blk_drew ?_ | refine blk_alloc ?_ _)); exact BK240.out) hb); have n1_ := Aside0.mk (blk_below (g := gb247) (o := .cells #[.bool t241, .int .i64 t242, .int .i64 t243, .int .i64 t244, .int .i64 t245] 39 (0, 0)) (by (with_reducible repeat (first | refine blk_drewN ?_ _ | refine blk_drew ?_ | refine blk_alloc ?_ _)); exact BK247.out) hb); have n2_ := Aside0.mk (blk_below (g := gb254) (o := .cells #[.bool t248, .int .i64 t249, .int .i64 t250, .int .i64 t251, .int .i64 t252] 39 (0, 0)) (by (with_reducible repeat (first | refine blk_drewN ?_ _ | refine blk_drew ?_ | refine blk_alloc ?_ _)); exact BK254.out) hb); have n3_ := Aside0.mk (blk_below (g := gb262) (o := .cells #[.bool t255, .int .i64 t256, .int .i64 t257, .int .i64 t258, .int .i64 t259] 39 (0, 0)) (by (with_reducible repeat (first | refine blk_drewN ?_ _ | refine blk_drew ?_ | refine blk_alloc ?_ _)); exact BK262.out) hb); have n4_ := Aside0.mk (below_step (by repeat (first | (with_reducible first | exact HB.out | apply below_alloc | apply pw_below_drewN | apply below_drew1 | refine below_set ?_ GE240.out | refine below_set ?_ GE247.out | refine below_set ?_ GE254.out | refine below_set ?_ GE262.out) | exact HB.out)) hb); clear BK240; clear BK247; clear BK254; clear BK262; clear HB; have BK240 := n0_; have BK247 := n1_; have BK254 := n2_; have BK262 := n3_; have HB := n4_; clear n0_ n1_ n2_ n3_ n4_; (try clear hb); (try clear hb2); (try clear hk); (try clear hi)))
                    go_ret
                    exact ⟨by first | rfl | (simp [errW_none, errW_some] <;> rfl) | (simp [*, errW_none, errW_some] <;> rfl), by repeat (first | (with_reducible first | exact HB.out | apply below_alloc | apply pw_below_drewN | apply below_drew1 | refine below_set ?_ GE240.out | refine below_set ?_ GE247.out | refine below_set ?_ GE254.out | refine below_set ?_ GE262.out) | exact HB.out)⟩
                · rw [if_neg c128] at H
                  have c128b0 : (t263 == t265) = false := beq_eq_false_iff_ne.mpr c128
                  have c128b1 : (t263 != t265) = true := bne_iff_ne.mpr c128
                  obtain rfl := Option.some.inj H
                  go_wp2_with (first | ((with_reducible refine gate_callee (f := 28) rfl ?_); refine goesL_ (some 118) rfl rfl Try.func28 (by kernel_rfl) rfl #[.slice A1 l1.length c1] rfl (by (try simp only [List.map_toArray, List.map_cons, List.map_nil]); first | done | rfl | (simp only [List.length_drop, List.length_take]; rfl)) ?_; (with_reducible refine (spec_DrawProbeTime.calls kj27 _ _ l1 t255 t256 t257 t258 t259 t260 t261 _ ?side1 ?side2 A115.out).mono ?_); (case side1 => repeat (first | exact (Kd.C_below HR1.out HB.out) | (with_reducible refine Kd.C_alloc ?_ _) | (with_reducible refine Kd.C_drewN ?_ _) | (with_reducible refine Kd.C_drew ?_))); (case side2 => exact HC1.out); rintro e w177 ⟨rfl, hb⟩; refine ⟨_, rfl, ?_⟩; have n0_ := Aside0.mk (blk_below (g := gb240) (o := .cells #[.bool t233, .int .i64 t234, .int .i64 t235, .int .i64 t236, .int .i64 t237] 39 (0, 0)) (by (with_reducible repeat (first | refine blk_drewN ?_ _ | refine blk_drew ?_ | refine blk_alloc ?_ _)); exact BK240.out) hb); have n1_ := Aside0.mk (blk_below (g := gb247) (o := .cells #[.bool t241, .int .i64 t242, .int .i64 t243, .int .i64 t244, .int .i64 t245] 39 (0, 0)) (by (with_reducible repeat (first | refine blk_drewN ?_ _ | refine blk_drew ?_ | refine blk_alloc ?_ _)); exact BK247.out) hb); have n2_ := Aside0.mk (blk_below (g := gb254) (o := .cells #[.bool t248, .int .i64 t249, .int .i64 t250, .int .i64 t251, .int .i64 t252] 39 (0, 0)) (by (with_reducible repeat (first | refine blk_drewN ?_ _ | refine blk_drew ?_ | refine blk_alloc ?_ _)); exact BK254.out) hb); have n3_ := Aside0.mk (below_step (by repeat (first | (with_reducible first | exact HB.out | apply below_alloc | apply pw_below_drewN | apply below_drew1 | refine below_set ?_ GE240.out | refine below_set ?_ GE247.out | refine below_set ?_ GE254.out) | exact HB.out)) hb); clear BK240; clear BK247; clear BK254; clear HB; have BK240 := n0_; have BK247 := n1_; have BK254 := n2_; have HB := n3_; clear n0_ n1_ n2_ n3_; (try clear hb); (try clear hb2); (try clear hk); (try clear hi)) | ((with_reducible refine gate_dst (N := 14) rfl ?_); refine box_event ?hg (N := 14) ?hd (cs := #[.bool false, .int .i64 0, .int .i64 0, .int .i64 0, .int .i64 0]) (t := 39) ?hr ?_; (case hd => rfl); (case hg => rfl); (case hr => first | (go_simp; done) | (go_simp; rfl)); intro gb262 hg w178 hbox hb; have n0_ := Aside0.mk (blk_below (g := gb240) (o := .cells #[.bool t233, .int .i64 t234, .int .i64 t235, .int .i64 t236, .int .i64 t237] 39 (0, 0)) (by (with_reducible repeat (first | refine blk_drewN ?_ _ | refine blk_drew ?_ | refine blk_alloc ?_ _)); exact BK240.out) hb); have n1_ := Aside0.mk (blk_below (g := gb247) (o := .cells #[.bool t241, .int .i64 t242, .int .i64 t243, .int .i64 t244, .int .i64 t245] 39 (0, 0)) (by (with_reducible repeat (first | refine blk_drewN ?_ _ | refine blk_drew ?_ | refine blk_alloc ?_ _)); exact BK247.out) hb); have n2_ := Aside0.mk (blk_below (g := gb254) (o := .cells #[.bool t248, .int .i64 t249, .int .i64 t250, .int .i64 t251, .int .i64 t252] 39 (0, 0)) (by (with_reducible repeat (first | refine blk_drewN ?_ _ | refine blk_drew ?_ | refine blk_alloc ?_ _)); exact BK254.out) hb); have n3_ := Aside0.mk (below_step (by repeat (first | (with_reducible first | exact HB.out | apply below_alloc | apply pw_below_drewN | apply below_drew1 | refine below_set ?_ GE240.out | refine below_set ?_ GE247.out | refine below_set ?_ GE254.out) | exact HB.out)) hb); have n4_ := Aside0.mk (hbox); have n5_ := Aside0.mk ((by rw [hg]; exact (below_size (by repeat (first | (with_reducible first | exact HB.out | apply below_alloc | apply pw_below_drewN | apply below_drew1 | refine below_set ?_ GE240.out | refine below_set ?_ GE247.out | refine below_set ?_ GE254.out) | exact HB.out))) : w.heap.size ≤ gb262)); have n6_ := Aside0.mk ((by rw [hg]; exact (below_size (by repeat (first | (with_reducible first | exact HB.out | apply below_alloc | apply pw_below_drewN | apply below_drew1 | refine below_set ?_ GE240.out | refine below_set ?_ GE247.out | refine below_set ?_ GE254.out) | exact HB.out))) : w.heap.size ≤ gb262)); have n7_ := Aside0.mk ((by rw [hg]; exact Nat.ne_of_lt (blk_lt (g := gb240) (o := .cells #[.bool t233, .int .i64 t234, .int .i64 t235, .int .i64 t236, .int .i64 t237] 39 (0, 0)) (by (with_reducible repeat (first | refine blk_drewN ?_ _ | refine blk_drew ?_ | refine blk_alloc ?_ _)); exact BK240.out)) : gb240 ≠ gb262)); have n8_ := Aside0.mk ((by rw [hg]; exact Nat.ne_of_gt (blk_lt (g := gb240) (o := .cells #[.bool t233, .int .i64 t234, .int .i64 t235, .int .i64 t236, .int .i64 t237] 39 (0, 0)) (by (with_reducible repeat (first | refine blk_drewN ?_ _ | refine blk_drew ?_ | refine blk_alloc ?_ _)); exact BK240.out)) : gb262 ≠ gb240)); have n9_ := Aside0.mk ((by rw [hg]; exact Nat.ne_of_lt (blk_lt (g := gb247) (o := .cells #[.bool t241, .int .i64 t242, .int .i64 t243, .int .i64 t244, .int .i64 t245] 39 (0, 0)) (by (with_reducible repeat (first | refine blk_drewN ?_ _ | refine blk_drew ?_ | refine blk_alloc ?_ _)); exact BK247.out)) : gb247 ≠ gb262)); have n10_ := Aside0.mk ((by rw [hg]; exact Nat.ne_of_gt (blk_lt (g := gb247) (o := .cells #[.bool t241, .int .i64 t242, .int .i64 t243, .int .i64 t244, .int .i64 t245] 39 (0, 0)) (by (with_reducible repeat (first | refine blk_drewN ?_ _ | refine blk_drew ?_ | refine blk_alloc ?_ _)); exact BK247.out)) : gb262 ≠ gb247)); have n11_ := Aside0.mk ((by rw [hg]; exact Nat.ne_of_lt (blk_lt (g := gb254) (o := .cells #[.bool t248, .int .i64 t249, .int .i64 t250, .int .i64 t251, .int .i64 t252] 39 (0, 0)) (by (with_reducible repeat (first | refine blk_drewN ?_ _ | refine blk_drew ?_ | refine blk_alloc ?_ _)); exact BK254.out)) : gb254 ≠ gb262)); have n12_ := Aside0.mk ((by rw [hg]; exact Nat.ne_of_gt (blk_lt (g := gb254) (o := .cells #[.bool t248, .int .i64 t249, .int .i64 t250, .int .i64 t251, .int .i64 t252] 39 (0, 0)) (by (with_reducible repeat (first | refine blk_drewN ?_ _ | refine blk_drew ?_ | refine blk_alloc ?_ _)); exact BK254.out)) : gb262 ≠ gb254)); clear BK240; clear BK247; clear BK254; clear HB; have BK240 := n0_; have BK247 := n1_; have BK254 := n2_; have HB := n3_; have BK262 := n4_; have GW262 := n5_; have GE262 := n6_; have NB240_262 := n7_; have NB262_240 := n8_; have NB247_262 := n9_; have NB262_247 := n10_; have NB254_262 := n11_; have NB262_254 := n12_; clear n0_ n1_ n2_ n3_ n4_ n5_ n6_ n7_ n8_ n9_ n10_ n11_ n12_; clear hb hbox hg; have hnb179 := NB262_240.out; have hnc179 := NB240_262.out; have hnb180 := NB262_247.out; have hnc180 := NB247_262.out; have hnb181 := NB262_254.out; have hnc181 := NB254_262.out; have hcz182_0 : w178.cell? ⟨gb262, 0, none⟩ = some (.bool false) := (blk_cell BK262.out 0).trans rfl; have hcz182_1 : w178.cell? ⟨gb262, 1, none⟩ = some (.int .i64 0) := (blk_cell BK262.out 1).trans rfl; have hcz182_2 : w178.cell? ⟨gb262, 2, none⟩ = some (.int .i64 0) := (blk_cell BK262.out 2).trans rfl; have hcz182_3 : w178.cell? ⟨gb262, 3, none⟩ = some (.int .i64 0) := (blk_cell BK262.out 3).trans rfl; have hcz182_4 : w178.cell? ⟨gb262, 4, none⟩ = some (.int .i64 0) := (blk_cell BK262.out 4).trans rfl; have hfz182_0 := blk_frozen BK262.out 0; have hfz182_1 := blk_frozen BK262.out 1; have hfz182_2 := blk_frozen BK262.out 2; have hfz182_3 := blk_frozen BK262.out 3; have hfz182_4 := blk_frozen BK262.out 4) | ((with_reducible refine gate_callee (f := 29) rfl ?_); refine goesL_ (some 126) rfl rfl Try.func29 (by kernel_rfl) rfl #[.agg #[.bool t255, .int .i64 t256, .int .i64 t257, .int .i64 t258, .int .i64 t259], .int .i64 t260, .int .i64 t261] rfl (by (try simp only [List.map_toArray, List.map_cons, List.map_nil]); first | done | rfl | (simp only [List.length_drop, List.length_take]; rfl)) ?_; (with_reducible refine (impl_ProbeTime.calls kj27 t255 t256 t257 t258 t259 t260 t261 t263 t264 _ A116.out).mono ?_); rintro e w183 ⟨rfl, hb⟩; refine ⟨_, rfl, ?_⟩; have n0_ := Aside0.mk (blk_below (g := gb240) (o := .cells #[.bool t233, .int .i64 t234, .int .i64 t235, .int .i64 t236, .int .i64 t237] 39 (0, 0)) (by (with_reducible repeat (first | refine blk_drewN ?_ _ | refine blk_drew ?_ | refine blk_alloc ?_ _)); refine blk_far ?_ NB240_262.out _; (with_reducible repeat (first | refine blk_drewN ?_ _ | refine blk_drew ?_ | refine blk_alloc ?_ _)); refine blk_far ?_ NB240_262.out _; (with_reducible repeat (first | refine blk_drewN ?_ _ | refine blk_drew ?_ | refine blk_alloc ?_ _)); refine blk_far ?_ NB240_262.out _; (with_reducible repeat (first | refine blk_drewN ?_ _ | refine blk_drew ?_ | refine blk_alloc ?_ _)); refine blk_far ?_ NB240_262.out _; (with_reducible repeat (first | refine blk_drewN ?_ _ | refine blk_drew ?_ | refine blk_alloc ?_ _)); refine blk_far ?_ NB240_262.out _; (with_reducible repeat (first | refine blk_drewN ?_ _ | refine blk_drew ?_ | refine blk_alloc ?_ _)); exact BK240.out) hb); have n1_ := Aside0.mk (blk_below (g := gb247) (o := .cells #[.bool t241, .int .i64 t242, .int .i64 t243, .int .i64 t244, .int .i64 t245] 39 (0, 0)) (by (with_reducible repeat (first | refine blk_drewN ?_ _ | refine blk_drew ?_ | refine blk_alloc ?_ _)); refine blk_far ?_ NB247_262.out _; (with_reducible repeat (first | refine blk_drewN ?_ _ | refine blk_drew ?_ | refine blk_alloc ?_ _)); refine blk_far ?_ NB247_262.out _; (with_reducible repeat (first | refine blk_drewN ?_ _ | refine blk_drew ?_ | refine blk_alloc ?_ _)); refine blk_far ?_ NB247_262.out _; (with_reducible repeat (first | refine blk_drewN ?_ _ | refine blk_drew ?_ | refine blk_alloc ?_ _)); refine blk_far ?_ NB247_262.out _; (with_reducible repeat (first | refine blk_drewN ?_ _ | refine blk_drew ?_ | refine blk_alloc ?_ _)); refine blk_far ?_ NB247_262.out _; (with_reducible repeat (first | refine blk_drewN ?_ _ | refine blk_drew ?_ | refine blk_alloc ?_ _)); exact BK247.out) hb); have n2_ := Aside0.mk (blk_below (g := gb254) (o := .cells #[.bool t248, .int .i64 t249, .int .i64 t250, .int .i64 t251, .int .i64 t252] 39 (0, 0)) (by (with_reducible repeat (first | refine blk_drewN ?_ _ | refine blk_drew ?_ | refine blk_alloc ?_ _)); refine blk_far ?_ NB254_262.out _; (with_reducible repeat (first | refine blk_drewN ?_ _ | refine blk_drew ?_ | refine blk_alloc ?_ _)); refine blk_far ?_ NB254_262.out _; (with_reducible repeat (first | refine blk_drewN ?_ _ | refine blk_drew ?_ | refine blk_alloc ?_ _)); refine blk_far ?_ NB254_262.out _; (with_reducible repeat (first | refine blk_drewN ?_ _ | refine blk_drew ?_ | refine blk_alloc ?_ _)); refine blk_far ?_ NB254_262.out _; (with_reducible repeat (first | refine blk_drewN ?_ _ | refine blk_drew ?_ | refine blk_alloc ?_ _)); refine blk_far ?_ NB254_262.out _; (with_reducible repeat (first | refine blk_drewN ?_ _ | refine blk_drew ?_ | refine blk_alloc ?_ _)); exact BK254.out) hb); have n3_ := Aside0.mk (blk_below (g := gb262) (o := .cells #[.bool t255, .int .i64 t256, .int .i64 t257, .int .i64 t258, .int .i64 t259] 39 (0, 0)) (by (with_reducible repeat (first | refine blk_drewN ?_ _ | refine blk_drew ?_ | refine blk_alloc ?_ _)); refine blk_put (cs := #[.bool t255, .int .i64 t256, .int .i64 t257, .int .i64 t258, .int .i64 0]) ?_ 4 _ rfl; (with_reducible repeat (first | refine blk_drewN ?_ _ | refine blk_drew ?_ | refine blk_alloc ?_ _)); refine blk_put (cs := #[.bool t255, .int .i64 t256, .int .i64 t257, .int .i64 0, .int .i64 0]) ?_ 3 _ rfl; (with_reducible repeat (first | refine blk_drewN ?_ _ | refine blk_drew ?_ | refine blk_alloc ?_ _)); refine blk_put (cs := #[.bool t255, .int .i64 t256, .int .i64 0, .int .i64 0, .int .i64 0]) ?_ 2 _ rfl; (with_reducible repeat (first | refine blk_drewN ?_ _ | refine blk_drew ?_ | refine blk_alloc ?_ _)); refine blk_put (cs := #[.bool t255, .int .i64 0, .int .i64 0, .int .i64 0, .int .i64 0]) ?_ 1 _ rfl; (with_reducible repeat (first | refine blk_drewN ?_ _ | refine blk_drew ?_ | refine blk_alloc ?_ _)); refine blk_put (cs := #[.bool false, .int .i64 0, .int .i64 0, .int .i64 0, .int .i64 0]) ?_ 0 _ rfl; (with_reducible repeat (first | refine blk_drewN ?_ _ | refine blk_drew ?_ | refine blk_alloc ?_ _)); exact BK262.out) hb); have n4_ := Aside0.mk (below_step (by repeat (first | (with_reducible first | exact HB.out | apply below_alloc | apply pw_below_drewN | apply below_drew1 | refine below_set ?_ GE240.out | refine below_set ?_ GE247.out | refine below_set ?_ GE254.out | refine below_set ?_ GE262.out) | exact HB.out)) hb); clear BK240; clear BK247; clear BK254; clear BK262; clear HB; have BK240 := n0_; have BK247 := n1_; have BK254 := n2_; have BK262 := n3_; have HB := n4_; clear n0_ n1_ n2_ n3_ n4_; (try clear hb); (try clear hb2); (try clear hk); (try clear hi); have hcz184_0 : w183.cell? ⟨gb262, 0, none⟩ = some (.bool t255) := (blk_cell BK262.out 0).trans rfl; have hcz184_1 : w183.cell? ⟨gb262, 1, none⟩ = some (.int .i64 t256) := (blk_cell BK262.out 1).trans rfl; have hcz184_2 : w183.cell? ⟨gb262, 2, none⟩ = some (.int .i64 t257) := (blk_cell BK262.out 2).trans rfl; have hcz184_3 : w183.cell? ⟨gb262, 3, none⟩ = some (.int .i64 t258) := (blk_cell BK262.out 3).trans rfl; have hcz184_4 : w183.cell? ⟨gb262, 4, none⟩ = some (.int .i64 t259) := (blk_cell BK262.out 4).trans rfl; have hfz184_0 := blk_frozen BK262.out 0; have hfz184_1 := blk_frozen BK262.out 1; have hfz184_2 := blk_frozen BK262.out 2; have hfz184_3 := blk_frozen BK262.out 3; have hfz184_4 := blk_frozen BK262.out 4) | ((with_reducible refine gate_callee (f := 30) rfl ?_); refine goesL_ (some 133) rfl rfl Try.func30 (by kernel_rfl) rfl #[.agg #[.bool t255, .int .i64 t256, .int .i64 t257, .int .i64 t258, .int .i64 t259], .int .i64 t260, .int .i64 t261] rfl (by (try simp only [List.map_toArray, List.map_cons, List.map_nil]); first | done | rfl | (simp only [List.length_drop, List.length_take]; rfl)) ?_; (with_reducible refine (spec_ProbeTime.calls kj27 t255 t256 t257 t258 t259 t260 t261 t265 t266 _ A117.out).mono ?_); rintro e w185 ⟨rfl, hb⟩; refine ⟨_, rfl, ?_⟩; have n0_ := Aside0.mk (blk_below (g := gb240) (o := .cells #[.bool t233, .int .i64 t234, .int .i64 t235, .int .i64 t236, .int .i64 t237] 39 (0, 0)) (by (with_reducible repeat (first | refine blk_drewN ?_ _ | refine blk_drew ?_ | refine blk_alloc ?_ _)); exact BK240.out) hb); have n1_ := Aside0.mk (blk_below (g := gb247) (o := .cells #[.bool t241, .int .i64 t242, .int .i64 t243, .int .i64 t244, .int .i64 t245] 39 (0, 0)) (by (with_reducible repeat (first | refine blk_drewN ?_ _ | refine blk_drew ?_ | refine blk_alloc ?_ _)); exact BK247.out) hb); have n2_ := Aside0.mk (blk_below (g := gb254) (o := .cells #[.bool t248, .int .i64 t249, .int .i64 t250, .int .i64 t251, .int .i64 t252] 39 (0, 0)) (by (with_reducible repeat (first | refine blk_drewN ?_ _ | refine blk_drew ?_ | refine blk_alloc ?_ _)); exact BK254.out) hb); have n3_ := Aside0.mk (blk_below (g := gb262) (o := .cells #[.bool t255, .int .i64 t256, .int .i64 t257, .int .i64 t258, .int .i64 t259] 39 (0, 0)) (by (with_reducible repeat (first | refine blk_drewN ?_ _ | refine blk_drew ?_ | refine blk_alloc ?_ _)); exact BK262.out) hb); have n4_ := Aside0.mk (below_step (by repeat (first | (with_reducible first | exact HB.out | apply below_alloc | apply pw_below_drewN | apply below_drew1 | refine below_set ?_ GE240.out | refine below_set ?_ GE247.out | refine below_set ?_ GE254.out | refine below_set ?_ GE262.out) | exact HB.out)) hb); clear BK240; clear BK247; clear BK254; clear BK262; clear HB; have BK240 := n0_; have BK247 := n1_; have BK254 := n2_; have BK262 := n3_; have HB := n4_; clear n0_ n1_ n2_ n3_ n4_; (try clear hb); (try clear hb2); (try clear hk); (try clear hi)))
                  go_ret
                  exact ⟨by first | rfl | (simp [errW_none, errW_some] <;> rfl) | (simp [*, errW_none, errW_some] <;> rfl), by repeat (first | (with_reducible first | exact HB.out | apply below_alloc | apply pw_below_drewN | apply below_drew1 | refine below_set ?_ GE240.out | refine below_set ?_ GE247.out | refine below_set ?_ GE254.out | refine below_set ?_ GE262.out) | exact HB.out)⟩

/-- THE ONE PURE STATEMENT of laws_FnRtt: yours. -/
def laws_FnRtt.Pure : Prop := ∀ (l0 : List Int) (l1 : List Int), l0.length ≤ maxLen → l0.length * 1 ≤ 140737488351232 → (∀ x ∈ l0, (Lit.int .u8 x).wf = true) → l1.length ≤ maxLen → l1.length * 1 ≤ 140737488351232 → (∀ x ∈ l1, (Lit.int .u8 x).wf = true) → ∃ k, laws_FnRtt.f k l0 l1 = some true
theorem laws_FnRtt.walk (P : laws_FnRtt.Pure) (a0 : Option Addr) (len0 cap0 : Nat) (z0 : List Int) (a1 : Option Addr) (len1 cap1 : Nat) (z1 : List Int) (w : World) (w0 : (a0 = none ∧ len0 = 0 ∧ cap0 = 0 ∧ z0 = []) ∨ ∃ x, a0 = some x ∧ len0 ≤ cap0 ∧ cap0 ≤ maxLen ∧ z0.length = cap0 ∧ (∀ i, i < z0.length → w.cell? (x.add i) = some (.int .u8 (z0.getD i 0))) ∧ ∀ n ∈ z0, (Lit.int .u8 n).wf = true) (y0 : len0 * 1 ≤ 140737488351232) (w1 : (a1 = none ∧ len1 = 0 ∧ cap1 = 0 ∧ z1 = []) ∨ ∃ x, a1 = some x ∧ len1 ≤ cap1 ∧ cap1 ≤ maxLen ∧ z1.length = cap1 ∧ (∀ i, i < z1.length → w.cell? (x.add i) = some (.int .u8 (z1.getD i 0))) ∧ ∀ n ∈ z1, (Lit.int .u8 n).wf = true) (y1 : len1 * 1 ≤ 140737488351232) :
    Calls Try.prog 8 #[.slice a0 len0 cap0, .slice a1 len1 cap1] w fun e w' => e = .returned (.bool true) ∧ Below w.heap.size w w' := by
  obtain ⟨l0, rfl, hr0, hm0, hw0, hc0⟩ := ReadsInt.ofRowC w0
  obtain ⟨l1, rfl, hr1, hm1, hw1, hc1⟩ := ReadsInt.ofRowC w1
  obtain ⟨k, h⟩ := P l0 l1 hm0 y0 hw0 hm1 y1 hw1
  refine (laws_FnRtt.calls k _ _ l0 _ _ l1 true w (Kd.C_of_reads (d := (0 : Int)) (h1 := fun _ => rfl) hr0) hc0 (Kd.C_of_reads (d := (0 : Int)) (h1 := fun _ => rfl) hr1) hc1 h).mono ?_
  rintro e w' ⟨rfl, hd⟩
  exact ⟨rfl, hd⟩

end Go.Proofs.Ytcggngmcaicdpaa.PFnRtt
