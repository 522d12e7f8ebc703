-- Written by a program of this session out of the translation; Lean checks it.
import Derived.Test.YtcngjidojibleaaPFnWindowx0
import Derived.Test.YtcngjidojibleaaPFnWindowx1
import Derived.Test.YtcngjidojibleaaPFnWindowx2
import Derived.Test.YtcngjidojibleaaPFnWindowx5
import Derived.Test.YtcngjidojibleaaPFnWindowx6
namespace Go.Proofs.Ytcngjidojibleaa.PFnWindow
open Go.RowKit Go.Proofs.YtcngjidojibleaaW.PrintWords Go.Proofs.YtcngjidojibleaaW.PrintLast Go.Proofs.YtcngjidojibleaaW.PrintMore
attribute [local go_sem] max2_int min2_int max_two min_two max_three min_three max_four min_four   -- for this text's walks alone
set_option linter.unusedVariables false
set_option linter.unusedSimpArgs false

attribute [local go_sem high] eqA37
/-! ### laws_FnWindow: function 5 -/
mutual
def laws_FnWindow.j0 : Nat → List Int → Int → Int → Int → Bool → Bool → Int → Int → Int → Int → Int → Int → Int → Int → Option (Bool)
 | 0, _, _, _, _, _, _, _, _, _, _, _, _, _, _ => none
 | k + 1, x1, x6, x7, x8, x10, x62, x338000, x338001, x338002, x338003, x344000, x344001, x344002, x344003 => if x62 = true then (some false) else (if x10 = true then (if (wrap64 (Int.tdiv x338000 2)) < 2400 then (laws_FnWindow.j1 k x1 x6 x7 x8 2400 x338000 x338001 x338002 x338003 x344000 x344001 x344002 x344003) else (laws_FnWindow.j1 k x1 x6 x7 x8 (wrap64 (Int.tdiv x338000 2)) x338000 x338001 x338002 x338003 x344000 x344001 x344002 x344003)) else (laws_FnWindow.j4 k x1))
def laws_FnWindow.j4 : Nat → List Int → Option (Bool)
 | 0, _ => none
 | k + 1, x1 => (spec_DrawSentBytes.f k x1).bind fun bt357 => ((impl_SentBytes.f bt357.1 bt357.2.1 bt357.2.2.1 bt357.2.2.2.1 bt357.2.2.2.2).bind fun bt363 => ((spec_SentBytes.f bt357.1 bt357.2.1 bt357.2.2.1 bt357.2.2.2.1 bt357.2.2.2.2).bind fun bt369 => ((impl_RoomIn.f bt357.1 bt357.2.1 bt357.2.2.1 bt357.2.2.2.1).bind fun bt375 => (if (bt363.2.2.2.2 != bt369.2.2.2.2) = true then (laws_FnWindow.j5 k true bt357.1 bt357.2.1 bt357.2.2.1 bt357.2.2.2.1) else (if bt363.2.2.2.2 = true then (if bt375.2 = true then (if bt357.2.2.2.2 > bt375.1 then (laws_FnWindow.j5 k true bt357.1 bt357.2.1 bt357.2.2.1 bt357.2.2.2.1) else (laws_FnWindow.j5 k (bt363.2.2.2.1 != (wrap64 (bt357.2.2.2.1 + bt357.2.2.2.2))) bt357.1 bt357.2.1 bt357.2.2.1 bt357.2.2.2.1)) else (laws_FnWindow.j5 k true bt357.1 bt357.2.1 bt357.2.2.1 bt357.2.2.2.1)) else (laws_FnWindow.j5 k false bt357.1 bt357.2.1 bt357.2.2.1 bt357.2.2.2.1))))))
def laws_FnWindow.j5 : Nat → Bool → Int → Int → Int → Int → Option (Bool)
 | 0, _, _, _, _, _ => none
 | k + 1, x173, x363000, x363001, x363002, x363003 => if x173 = true then (some false) else ((impl_StalledWindow.f x363000 x363001 x363002 x363003).bind fun bt377 => (if bt377.2.2.2.2 = true then (some (bt377.1 == 2400)) else (some true)))
def laws_FnWindow.j1 : Nat → List Int → Int → Int → Int → Int → Int → Int → Int → Int → Int → Int → Int → Int → Option (Bool)
 | 0, _, _, _, _, _, _, _, _, _, _, _, _, _ => none
 | k + 1, x1, x6, x7, x8, x13, x338000, x338001, x338002, x338003, x344000, x344001, x344002, x344003 => (impl_GoodWindow.f x344000 x344001 x344002 x344003).bind fun t350 => (if t350 = true then (if x344003 = (wrap64 (x338003 - x6)) then (if x7 > x338002 then (if x344000 = x13 then (if x7 ≤ x338002 then (laws_FnWindow.j2 k x1 x8 (x344000 != x338000) x344000 x344001 x344002 x344003) else (laws_FnWindow.j2 k x1 x8 false x344000 x344001 x344002 x344003)) else (laws_FnWindow.j2 k x1 x8 true x344000 x344001 x344002 x344003)) else (if x7 ≤ x338002 then (laws_FnWindow.j2 k x1 x8 (x344000 != x338000) x344000 x344001 x344002 x344003) else (laws_FnWindow.j2 k x1 x8 false x344000 x344001 x344002 x344003))) else (laws_FnWindow.j2 k x1 x8 true x344000 x344001 x344002 x344003)) else (laws_FnWindow.j2 k x1 x8 true x344000 x344001 x344002 x344003))
def laws_FnWindow.j2 : Nat → List Int → Int → Bool → Int → Int → Int → Int → Option (Bool)
 | 0, _, _, _, _, _, _, _ => none
 | k + 1, x1, x8, x105, x344000, x344001, x344002, x344003 => if x105 = true then (some false) else ((impl_LostBytes.f k x344000 x344001 x344002 x344003 0 x344002 x8).bind fun bt351 => (if x344002 ≥ 0 then (if bt351.2.2.2.2 = true then (laws_FnWindow.j3 k x1 (bt351.1 != x344000)) else (laws_FnWindow.j3 k x1 true)) else (laws_FnWindow.j3 k x1 false)))
def laws_FnWindow.j3 : Nat → List Int → Bool → Option (Bool)
 | 0, _, _ => none
 | k + 1, x1, x127 => if x127 = true then (some false) else (laws_FnWindow.j4 k x1)
end
def laws_FnWindow.f (k : Nat) (l0 : List Int) (l1 : List Int) : Option (Bool) := if (wrap64 ((l0.length : Int) + (l1.length : Int))) > 1048576 then (some true) else ((spec_DrawLostBytes.f k l0).bind fun bt330 => ((impl_LostBytes.f k bt330.1 bt330.2.1 bt330.2.2.1 bt330.2.2.2.1 bt330.2.2.2.2.1 bt330.2.2.2.2.2.1 bt330.2.2.2.2.2.2).bind fun bt338 => ((spec_LostBytes.f k bt330.1 bt330.2.1 bt330.2.2.1 bt330.2.2.2.1 bt330.2.2.2.2.1 bt330.2.2.2.2.2.1 bt330.2.2.2.2.2.2).bind fun bt344 => (if (bt338.2.2.2.2 != bt344.2.2.2.2) = true then (laws_FnWindow.j0 k l1 bt330.2.2.2.2.1 bt330.2.2.2.2.2.1 bt330.2.2.2.2.2.2 bt338.2.2.2.2 true bt330.1 bt330.2.1 bt330.2.2.1 bt330.2.2.2.1 bt338.1 bt338.2.1 bt338.2.2.1 bt338.2.2.2.1) else (laws_FnWindow.j0 k l1 bt330.2.2.2.2.1 bt330.2.2.2.2.2.1 bt330.2.2.2.2.2.2 bt338.2.2.2.2 (!(bt338.1 == bt344.1) || (!(bt338.2.1 == bt344.2.1) || (!(bt338.2.2.1 == bt344.2.2.1) || (!(bt338.2.2.2.1 == bt344.2.2.2.1))))) bt330.1 bt330.2.1 bt330.2.2.1 bt330.2.2.2.1 bt338.1 bt338.2.1 bt338.2.2.1 bt338.2.2.2.1)))))
theorem laws_FnWindow.mono_l : ∀ k, (∀ y0 y1 y2 y3 y4 y5 y6 y7 y8 y9 y10 y11 y12 y13, LeO (laws_FnWindow.j0 k y0 y1 y2 y3 y4 y5 y6 y7 y8 y9 y10 y11 y12 y13) (laws_FnWindow.j0 (k + 1) y0 y1 y2 y3 y4 y5 y6 y7 y8 y9 y10 y11 y12 y13)) ∧ (∀ y0, LeO (laws_FnWindow.j4 k y0) (laws_FnWindow.j4 (k + 1) y0)) ∧ (∀ y0 y1 y2 y3 y4, LeO (laws_FnWindow.j5 k y0 y1 y2 y3 y4) (laws_FnWindow.j5 (k + 1) y0 y1 y2 y3 y4)) ∧ (∀ y0 y1 y2 y3 y4 y5 y6 y7 y8 y9 y10 y11 y12, LeO (laws_FnWindow.j1 k y0 y1 y2 y3 y4 y5 y6 y7 y8 y9 y10 y11 y12) (laws_FnWindow.j1 (k + 1) y0 y1 y2 y3 y4 y5 y6 y7 y8 y9 y10 y11 y12)) ∧ (∀ y0 y1 y2 y3 y4 y5 y6, LeO (laws_FnWindow.j2 k y0 y1 y2 y3 y4 y5 y6) (laws_FnWindow.j2 (k + 1) y0 y1 y2 y3 y4 y5 y6)) ∧ (∀ y0 y1, LeO (laws_FnWindow.j3 k y0 y1) (laws_FnWindow.j3 (k + 1) y0 y1))
 | 0 => ⟨fun _ _ _ _ _ _ _ _ _ _ _ _ _ _ r h => by simp [laws_FnWindow.j0] at h, fun _ r h => by simp [laws_FnWindow.j4] at h, fun _ _ _ _ _ r h => by simp [laws_FnWindow.j5] at h, fun _ _ _ _ _ _ _ _ _ _ _ _ _ r h => by simp [laws_FnWindow.j1] at h, fun _ _ _ _ _ _ _ r h => by simp [laws_FnWindow.j2] at h, fun _ _ r h => by simp [laws_FnWindow.j3] at h⟩
 | k + 1 => by
  obtain ⟨ih0, ih1, ih2, ih3, ih4, ih5⟩ := laws_FnWindow.mono_l k
  refine ⟨?_, ?_, ?_, ?_, ?_, ?_⟩
  ·intro y0 y1 y2 y3 y4 y5 y6 y7 y8 y9 y10 y11 y12 y13
   unfold laws_FnWindow.j0
   repeat' first
   | (with_reducible exact ih0 _ _ _ _ _ _ _ _ _ _ _ _ _ _)
   | (with_reducible exact ih1 _)
   | (with_reducible exact ih2 _ _ _ _ _)
   | (with_reducible exact ih3 _ _ _ _ _ _ _ _ _ _ _ _ _)
   | (with_reducible exact ih4 _ _ _ _ _ _ _)
   | (with_reducible exact ih5 _ _)
   | (with_reducible exact impl_LostBytes.mono _ _ _ _ _ _ _ _)
   | (with_reducible exact spec_DrawLostBytes.mono _ _)
   | (with_reducible exact spec_DrawSentBytes.mono _ _)
   | (with_reducible exact spec_LostBytes.mono _ _ _ _ _ _ _ _)
   | (with_reducible exact LeO.refl _)
   | (with_reducible exact LeO.none _)
   | (with_reducible refine LeO.ite ?_ ?_)
   | (with_reducible refine LeO.bind ?_ (fun _ => ?_))
   | exact ih0 _ _ _ _ _ _ _ _ _ _ _ _ _ _
   | exact ih1 _
   | exact ih2 _ _ _ _ _
   | exact ih3 _ _ _ _ _ _ _ _ _ _ _ _ _
   | exact ih4 _ _ _ _ _ _ _
   | exact ih5 _ _
   | exact impl_LostBytes.mono _ _ _ _ _ _ _ _
   | exact spec_DrawLostBytes.mono _ _
   | exact spec_DrawSentBytes.mono _ _
   | exact spec_LostBytes.mono _ _ _ _ _ _ _ _
   | exact LeO.none _
   | refine LeO.ite ?_ ?_
   | refine LeO.bind ?_ (fun _ => ?_)
  ·intro y0
   unfold laws_FnWindow.j4
   repeat' first
   | (with_reducible exact ih0 _ _ _ _ _ _ _ _ _ _ _ _ _ _)
   | (with_reducible exact ih1 _)
   | (with_reducible exact ih2 _ _ _ _ _)
   | (with_reducible exact ih3 _ _ _ _ _ _ _ _ _ _ _ _ _)
   | (with_reducible exact ih4 _ _ _ _ _ _ _)
   | (with_reducible exact ih5 _ _)
   | (with_reducible exact impl_LostBytes.mono _ _ _ _ _ _ _ _)
   | (with_reducible exact spec_DrawLostBytes.mono _ _)
   | (with_reducible exact spec_DrawSentBytes.mono _ _)
   | (with_reducible exact spec_LostBytes.mono _ _ _ _ _ _ _ _)
   | (with_reducible exact LeO.refl _)
   | (with_reducible exact LeO.none _)
   | (with_reducible refine LeO.ite ?_ ?_)
   | (with_reducible refine LeO.bind ?_ (fun _ => ?_))
   | exact ih0 _ _ _ _ _ _ _ _ _ _ _ _ _ _
   | exact ih1 _
   | exact ih2 _ _ _ _ _
   | exact ih3 _ _ _ _ _ _ _ _ _ _ _ _ _
   | exact ih4 _ _ _ _ _ _ _
   | exact ih5 _ _
   | exact impl_LostBytes.mono _ _ _ _ _ _ _ _
   | exact spec_DrawLostBytes.mono _ _
   | exact spec_DrawSentBytes.mono _ _
   | exact spec_LostBytes.mono _ _ _ _ _ _ _ _
   | exact LeO.none _
   | refine LeO.ite ?_ ?_
   | refine LeO.bind ?_ (fun _ => ?_)
  ·intro y0 y1 y2 y3 y4
   unfold laws_FnWindow.j5
   repeat' first
   | (with_reducible exact ih0 _ _ _ _ _ _ _ _ _ _ _ _ _ _)
   | (with_reducible exact ih1 _)
   | (with_reducible exact ih2 _ _ _ _ _)
   | (with_reducible exact ih3 _ _ _ _ _ _ _ _ _ _ _ _ _)
   | (with_reducible exact ih4 _ _ _ _ _ _ _)
   | (with_reducible exact ih5 _ _)
   | (with_reducible exact impl_LostBytes.mono _ _ _ _ _ _ _ _)
   | (with_reducible exact spec_DrawLostBytes.mono _ _)
   | (with_reducible exact spec_DrawSentBytes.mono _ _)
   | (with_reducible exact spec_LostBytes.mono _ _ _ _ _ _ _ _)
   | (with_reducible exact LeO.refl _)
   | (with_reducible exact LeO.none _)
   | (with_reducible refine LeO.ite ?_ ?_)
   | (with_reducible refine LeO.bind ?_ (fun _ => ?_))
   | exact ih0 _ _ _ _ _ _ _ _ _ _ _ _ _ _
   | exact ih1 _
   | exact ih2 _ _ _ _ _
   | exact ih3 _ _ _ _ _ _ _ _ _ _ _ _ _
   | exact ih4 _ _ _ _ _ _ _
   | exact ih5 _ _
   | exact impl_LostBytes.mono _ _ _ _ _ _ _ _
   | exact spec_DrawLostBytes.mono _ _
   | exact spec_DrawSentBytes.mono _ _
   | exact spec_LostBytes.mono _ _ _ _ _ _ _ _
   | exact LeO.none _
   | refine LeO.ite ?_ ?_
   | refine LeO.bind ?_ (fun _ => ?_)
  ·intro y0 y1 y2 y3 y4 y5 y6 y7 y8 y9 y10 y11 y12
   unfold laws_FnWindow.j1
   repeat' first
   | (with_reducible exact ih0 _ _ _ _ _ _ _ _ _ _ _ _ _ _)
   | (with_reducible exact ih1 _)
   | (with_reducible exact ih2 _ _ _ _ _)
   | (with_reducible exact ih3 _ _ _ _ _ _ _ _ _ _ _ _ _)
   | (with_reducible exact ih4 _ _ _ _ _ _ _)
   | (with_reducible exact ih5 _ _)
   | (with_reducible exact impl_LostBytes.mono _ _ _ _ _ _ _ _)
   | (with_reducible exact spec_DrawLostBytes.mono _ _)
   | (with_reducible exact spec_DrawSentBytes.mono _ _)
   | (with_reducible exact spec_LostBytes.mono _ _ _ _ _ _ _ _)
   | (with_reducible exact LeO.refl _)
   | (with_reducible exact LeO.none _)
   | (with_reducible refine LeO.ite ?_ ?_)
   | (with_reducible refine LeO.bind ?_ (fun _ => ?_))
   | exact ih0 _ _ _ _ _ _ _ _ _ _ _ _ _ _
   | exact ih1 _
   | exact ih2 _ _ _ _ _
   | exact ih3 _ _ _ _ _ _ _ _ _ _ _ _ _
   | exact ih4 _ _ _ _ _ _ _
   | exact ih5 _ _
   | exact impl_LostBytes.mono _ _ _ _ _ _ _ _
   | exact spec_DrawLostBytes.mono _ _
   | exact spec_DrawSentBytes.mono _ _
   | exact spec_LostBytes.mono _ _ _ _ _ _ _ _
   | exact LeO.none _
   | refine LeO.ite ?_ ?_
   | refine LeO.bind ?_ (fun _ => ?_)
  ·intro y0 y1 y2 y3 y4 y5 y6
   unfold laws_FnWindow.j2
   repeat' first
   | (with_reducible exact ih0 _ _ _ _ _ _ _ _ _ _ _ _ _ _)
   | (with_reducible exact ih1 _)
   | (with_reducible exact ih2 _ _ _ _ _)
   | (with_reducible exact ih3 _ _ _ _ _ _ _ _ _ _ _ _ _)
   | (with_reducible exact ih4 _ _ _ _ _ _ _)
   | (with_reducible exact ih5 _ _)
   | (with_reducible exact impl_LostBytes.mono _ _ _ _ _ _ _ _)
   | (with_reducible exact spec_DrawLostBytes.mono _ _)
   | (with_reducible exact spec_DrawSentBytes.mono _ _)
   | (with_reducible exact spec_LostBytes.mono _ _ _ _ _ _ _ _)
   | (with_reducible exact LeO.refl _)
   | (with_reducible exact LeO.none _)
   | (with_reducible refine LeO.ite ?_ ?_)
   | (with_reducible refine LeO.bind ?_ (fun _ => ?_))
   | exact ih0 _ _ _ _ _ _ _ _ _ _ _ _ _ _
   | exact ih1 _
   | exact ih2 _ _ _ _ _
   | exact ih3 _ _ _ _ _ _ _ _ _ _ _ _ _
   | exact ih4 _ _ _ _ _ _ _
   | exact ih5 _ _
   | exact impl_LostBytes.mono _ _ _ _ _ _ _ _
   | exact spec_DrawLostBytes.mono _ _
   | exact spec_DrawSentBytes.mono _ _
   | exact spec_LostBytes.mono _ _ _ _ _ _ _ _
   | exact LeO.none _
   | refine LeO.ite ?_ ?_
   | refine LeO.bind ?_ (fun _ => ?_)
  ·intro y0 y1
   unfold laws_FnWindow.j3
   repeat' first
   | (with_reducible exact ih0 _ _ _ _ _ _ _ _ _ _ _ _ _ _)
   | (with_reducible exact ih1 _)
   | (with_reducible exact ih2 _ _ _ _ _)
   | (with_reducible exact ih3 _ _ _ _ _ _ _ _ _ _ _ _ _)
   | (with_reducible exact ih4 _ _ _ _ _ _ _)
   | (with_reducible exact ih5 _ _)
   | (with_reducible exact impl_LostBytes.mono _ _ _ _ _ _ _ _)
   | (with_reducible exact spec_DrawLostBytes.mono _ _)
   | (with_reducible exact spec_DrawSentBytes.mono _ _)
   | (with_reducible exact spec_LostBytes.mono _ _ _ _ _ _ _ _)
   | (with_reducible exact LeO.refl _)
   | (with_reducible exact LeO.none _)
   | (with_reducible refine LeO.ite ?_ ?_)
   | (with_reducible refine LeO.bind ?_ (fun _ => ?_))
   | exact ih0 _ _ _ _ _ _ _ _ _ _ _ _ _ _
   | exact ih1 _
   | exact ih2 _ _ _ _ _
   | exact ih3 _ _ _ _ _ _ _ _ _ _ _ _ _
   | exact ih4 _ _ _ _ _ _ _
   | exact ih5 _ _
   | exact impl_LostBytes.mono _ _ _ _ _ _ _ _
   | exact spec_DrawLostBytes.mono _ _
   | exact spec_DrawSentBytes.mono _ _
   | exact spec_LostBytes.mono _ _ _ _ _ _ _ _
   | exact LeO.none _
   | refine LeO.ite ?_ ?_
   | refine LeO.bind ?_ (fun _ => ?_)
theorem laws_FnWindow.mono : ∀ a0 a1 k, LeO (laws_FnWindow.f k a0 a1) (laws_FnWindow.f (k + 1) a0 a1) := by
 intro a0 a1 k
 obtain ⟨ih0, ih1, ih2, ih3, ih4, ih5⟩ := laws_FnWindow.mono_l k
 unfold laws_FnWindow.f
 repeat' first
   | (with_reducible exact ih0 _ _ _ _ _ _ _ _ _ _ _ _ _ _)
   | (with_reducible exact ih1 _)
   | (with_reducible exact ih2 _ _ _ _ _)
   | (with_reducible exact ih3 _ _ _ _ _ _ _ _ _ _ _ _ _)
   | (with_reducible exact ih4 _ _ _ _ _ _ _)
   | (with_reducible exact ih5 _ _)
   | (with_reducible exact impl_LostBytes.mono _ _ _ _ _ _ _ _)
   | (with_reducible exact spec_DrawLostBytes.mono _ _)
   | (with_reducible exact spec_DrawSentBytes.mono _ _)
   | (with_reducible exact spec_LostBytes.mono _ _ _ _ _ _ _ _)
   | (with_reducible exact LeO.refl _)
   | (with_reducible exact LeO.none _)
   | (with_reducible refine LeO.ite ?_ ?_)
   | (with_reducible refine LeO.bind ?_ (fun _ => ?_))
   | exact ih0 _ _ _ _ _ _ _ _ _ _ _ _ _ _
   | exact ih1 _
   | exact ih2 _ _ _ _ _
   | exact ih3 _ _ _ _ _ _ _ _ _ _ _ _ _
   | exact ih4 _ _ _ _ _ _ _
   | exact ih5 _ _
   | exact impl_LostBytes.mono _ _ _ _ _ _ _ _
   | exact spec_DrawLostBytes.mono _ _
   | exact spec_DrawSentBytes.mono _ _
   | exact spec_LostBytes.mono _ _ _ _ _ _ _ _
   | exact LeO.none _
   | refine LeO.ite ?_ ?_
   | refine LeO.bind ?_ (fun _ => ?_)
set_option maxHeartbeats 8000000 in
set_option maxRecDepth 100000 in
theorem laws_FnWindow.calls (k : Nat) (A0 : Option Addr) (c0 : Nat) (l0 : List Int) (A1 : Option Addr) (c1 : Nat) (l1 : List Int) (r : Bool) (w : World) (hr0 : Kd.C (Kd.int .u8) w A0 l0.length l0) (hc0 : l0.length ≤ c0) (hr1 : Kd.C (Kd.int .u8) w A1 l1.length l1) (hc1 : l1.length ≤ c1) (h : laws_FnWindow.f k l0 l1 = some r) :
  Calls Try.prog 5 #[.slice A0 l0.length c0, .slice A1 l1.length c1] w fun e w' => e = .returned (.bool r) ∧ Below w.heap.size w w' := by
 have hu37 := Try.underlying37
 have HR0 := Aside0.mk hr0
 have HC0 := Aside0.mk hc0
 clear hr0 hc0
 have HR1 := Aside0.mk hr1
 have HC1 := Aside0.mk hc1
 clear hr1 hc1
 have HB := Aside0.mk (Below.refl w.heap.size w)
 have H : (if (wrap64 ((l0.length : Int) + (l1.length : Int))) > 1048576 then (some true) else ((spec_DrawLostBytes.f k l0).bind fun bt330 => ((impl_LostBytes.f k bt330.1 bt330.2.1 bt330.2.2.1 bt330.2.2.2.1 bt330.2.2.2.2.1 bt330.2.2.2.2.2.1 bt330.2.2.2.2.2.2).bind fun bt338 => ((spec_LostBytes.f k bt330.1 bt330.2.1 bt330.2.2.1 bt330.2.2.2.1 bt330.2.2.2.2.1 bt330.2.2.2.2.2.1 bt330.2.2.2.2.2.2).bind fun bt344 => (if (bt338.2.2.2.2 != bt344.2.2.2.2) = true then (laws_FnWindow.j0 k l1 bt330.2.2.2.2.1 bt330.2.2.2.2.2.1 bt330.2.2.2.2.2.2 bt338.2.2.2.2 true bt330.1 bt330.2.1 bt330.2.2.1 bt330.2.2.2.1 bt338.1 bt338.2.1 bt338.2.2.1 bt338.2.2.2.1) else (laws_FnWindow.j0 k l1 bt330.2.2.2.2.1 bt330.2.2.2.2.2.1 bt330.2.2.2.2.2.2 bt338.2.2.2.2 (!(bt338.1 == bt344.1) || (!(bt338.2.1 == bt344.2.1) || (!(bt338.2.2.1 == bt344.2.2.1) || (!(bt338.2.2.2.1 == bt344.2.2.2.1))))) bt330.1 bt330.2.1 bt330.2.2.1 bt330.2.2.2.1 bt338.1 bt338.2.1 bt338.2.2.1 bt338.2.2.2.1)))))) = some r := h
 clear h
 by_cases c3 : (wrap64 ((l0.length : Int) + (l1.length : Int))) > 1048576
 ·as_aux_lemma =>
   rw [if_pos c3] at H
   have c3b0 : decide (1048576 < (wrap64 ((l0.length : Int) + (l1.length : Int)))) = true := decide_eq_true c3
   clear c3
   obtain rfl := Option.some.inj H
   go_enter Try.func5, Try.ntmps5
   go_wp2
   go_ret
   exact ⟨q_2, q_7⟩
 ·rw [if_neg c3] at H
  have c3b0 : decide (1048576 < (wrap64 ((l0.length : Int) + (l1.length : Int)))) = false := decide_eq_false c3
  clear c3
  replace H := Option.bind_eq_some_iff.mp H
  obtain ⟨⟨t330, t331, t332, t333, t334, t335, t336⟩, A40, H⟩ := H
  replace H : ((impl_LostBytes.f k t330 t331 t332 t333 t334 t335 t336).bind fun bt338 => ((spec_LostBytes.f k t330 t331 t332 t333 t334 t335 t336).bind fun bt344 => (if (bt338.2.2.2.2 != bt344.2.2.2.2) = true then (laws_FnWindow.j0 k l1 t334 t335 t336 bt338.2.2.2.2 true t330 t331 t332 t333 bt338.1 bt338.2.1 bt338.2.2.1 bt338.2.2.2.1) else (laws_FnWindow.j0 k l1 t334 t335 t336 bt338.2.2.2.2 (!(bt338.1 == bt344.1) || (!(bt338.2.1 == bt344.2.1) || (!(bt338.2.2.1 == bt344.2.2.1) || (!(bt338.2.2.2.1 == bt344.2.2.2.1))))) t330 t331 t332 t333 bt338.1 bt338.2.1 bt338.2.2.1 bt338.2.2.2.1)))) = some r := H
  have A4 := Aside0.mk A40
  clear A40
  replace H := Option.bind_eq_some_iff.mp H
  obtain ⟨⟨t338, t339, t340, t341, t342⟩, A50, H⟩ := H
  replace H : ((spec_LostBytes.f k t330 t331 t332 t333 t334 t335 t336).bind fun bt344 => (if (t342 != bt344.2.2.2.2) = true then (laws_FnWindow.j0 k l1 t334 t335 t336 t342 true t330 t331 t332 t333 t338 t339 t340 t341) else (laws_FnWindow.j0 k l1 t334 t335 t336 t342 (!(t338 == bt344.1) || (!(t339 == bt344.2.1) || (!(t340 == bt344.2.2.1) || (!(t341 == bt344.2.2.2.1))))) t330 t331 t332 t333 t338 t339 t340 t341))) = some r := H
  have A5 := Aside0.mk A50
  clear A50
  replace H := Option.bind_eq_some_iff.mp H
  obtain ⟨⟨t344, t345, t346, t347, t348⟩, A60, H⟩ := H
  replace H : (if (t342 != t348) = true then (laws_FnWindow.j0 k l1 t334 t335 t336 t342 true t330 t331 t332 t333 t338 t339 t340 t341) else (laws_FnWindow.j0 k l1 t334 t335 t336 t342 (!(t338 == t344) || (!(t339 == t345) || (!(t340 == t346) || (!(t341 == t347))))) t330 t331 t332 t333 t338 t339 t340 t341)) = some r := H
  have A6 := Aside0.mk A60
  clear A60
  have HC7 := Aside0.mk H
  clear H
  go_enter Try.func5, Try.ntmps5
  go_upto_region 6 with (first | ((with_reducible refine gate_callee (f := 18) rfl ?_); refine goesL_ (some 34) rfl rfl Try.func18 (by kernel_rfl) rfl #[.slice A0 l0.length c0] rfl (q_6) ?_; (with_reducible refine (spec_DrawLostBytes.calls k _ _ l0 t330 t331 t332 t333 t334 t335 t336 _ ?side1 ?side2 A4.out).mono ?_); (case side1 => repeat (first | exact HR0.out | (with_reducible refine Kd.C_alloc ?_ _) | (with_reducible refine Kd.C_drewN ?_ _) | (with_reducible refine Kd.C_drew ?_))); (case side2 => exact HC0.out); rintro e w8 ⟨rfl, hb⟩; refine ⟨_, rfl, ?_⟩; have n0_ := Aside0.mk (below_step (q_7) hb); clear HB; have HB := n0_; clear n0_; (try clear hb); (try clear hb2); (try clear hk); (try clear hi)) | ((with_reducible refine gate_dst (N := 5) rfl ?_); refine box_event ?hg (N := 5) ?hd (cs := #[.int .i64 0, .int .i64 0, .int .i64 0, .int .i64 0]) (t := 37) ?hr ?_; (case hd => rfl); (case hg => rfl); (case hr => first | (go_simp; done) | (go_simp; rfl)); intro gb337 hg w9 hbox hb; have n0_ := Aside0.mk (below_step (q_7) hb); have n1_ := Aside0.mk (hbox); have n2_ := Aside0.mk ((q_8 : w.heap.size ≤ gb337)); have n3_ := Aside0.mk ((q_8 : w.heap.size ≤ gb337)); clear HB; have HB := n0_; have BK337 := n1_; have GW337 := n2_; have GE337 := n3_; clear n0_ n1_ n2_ n3_; clear hb hbox hg; have hcz10_0 : w9.cell? ⟨gb337, 0, none⟩ = some (.int .i64 0) := (blk_cell BK337.out 0).trans rfl; have hcz10_1 : w9.cell? ⟨gb337, 1, none⟩ = some (.int .i64 0) := (blk_cell BK337.out 1).trans rfl; have hcz10_2 : w9.cell? ⟨gb337, 2, none⟩ = some (.int .i64 0) := (blk_cell BK337.out 2).trans rfl; have hcz10_3 : w9.cell? ⟨gb337, 3, none⟩ = some (.int .i64 0) := (blk_cell BK337.out 3).trans rfl; have hfz10_0 := blk_frozen BK337.out 0; have hfz10_1 := blk_frozen BK337.out 1; have hfz10_2 := blk_frozen BK337.out 2; have hfz10_3 := blk_frozen BK337.out 3) | ((with_reducible refine gate_callee (f := 19) rfl ?_); refine goesL_ (some 44) rfl rfl Try.func19 (by kernel_rfl) rfl #[.agg #[.int .i64 t330, .int .i64 t331, .int .i64 t332, .int .i64 t333], .int .i64 t334, .int .i64 t335, .int .i64 t336] rfl (q_6) ?_; (with_reducible refine (impl_LostBytes.calls k t330 t331 t332 t333 t334 t335 t336 t338 t339 t340 t341 t342 _ A5.out).mono ?_); rintro e w11 ⟨rfl, hb⟩; refine ⟨_, rfl, ?_⟩; have n0_ := Aside0.mk (blk_below (g := gb337) (o := .cells #[.int .i64 t330, .int .i64 t331, .int .i64 t332, .int .i64 t333] 37 (0, 0)) (by (with_reducible repeat (first | refine blk_drewN ?_ _ | refine blk_drew ?_ | refine blk_alloc ?_ _)); refine blk_put (cs := #[.int .i64 t330, .int .i64 t331, .int .i64 t332, .int .i64 0]) ?_ 3 _ rfl; (with_reducible repeat (first | refine blk_drewN ?_ _ | refine blk_drew ?_ | refine blk_alloc ?_ _)); refine blk_put (cs := #[.int .i64 t330, .int .i64 t331, .int .i64 0, .int .i64 0]) ?_ 2 _ rfl; (with_reducible repeat (first | refine blk_drewN ?_ _ | refine blk_drew ?_ | refine blk_alloc ?_ _)); refine blk_put (cs := #[.int .i64 t330, .int .i64 0, .int .i64 0, .int .i64 0]) ?_ 1 _ rfl; (with_reducible repeat (first | refine blk_drewN ?_ _ | refine blk_drew ?_ | refine blk_alloc ?_ _)); refine blk_put (cs := #[.int .i64 0, .int .i64 0, .int .i64 0, .int .i64 0]) ?_ 0 _ rfl; (with_reducible repeat (first | refine blk_drewN ?_ _ | refine blk_drew ?_ | refine blk_alloc ?_ _)); exact BK337.out) hb); have n1_ := Aside0.mk (below_step (q_150) hb); clear BK337; clear HB; have BK337 := n0_; have HB := n1_; clear n0_ n1_; (try clear hb); (try clear hb2); (try clear hk); (try clear hi)) | ((with_reducible refine gate_dst (N := 9) rfl ?_); refine box_event ?hg (N := 9) ?hd (cs := #[.int .i64 0, .int .i64 0, .int .i64 0, .int .i64 0]) (t := 37) ?hr ?_; (case hd => rfl); (case hg => rfl); (case hr => first | (go_simp; done) | (go_simp; rfl)); intro gb343 hg w12 hbox hb; have n0_ := Aside0.mk (blk_below (g := gb337) (o := .cells #[.int .i64 t330, .int .i64 t331, .int .i64 t332, .int .i64 t333] 37 (0, 0)) (q_151) hb); have n1_ := Aside0.mk (below_step (q_150) hb); have n2_ := Aside0.mk (hbox); have n3_ := Aside0.mk ((q_152 : w.heap.size ≤ gb343)); have n4_ := Aside0.mk ((q_152 : w.heap.size ≤ gb343)); have n5_ := Aside0.mk ((q_153 : gb337 ≠ gb343)); have n6_ := Aside0.mk ((q_154 : gb343 ≠ gb337)); clear BK337; clear HB; have BK337 := n0_; have HB := n1_; have BK343 := n2_; have GW343 := n3_; have GE343 := n4_; have NB337_343 := n5_; have NB343_337 := n6_; clear n0_ n1_ n2_ n3_ n4_ n5_ n6_; clear hb hbox hg; have hnb13 := NB343_337.out; have hnc13 := NB337_343.out; have hcz14_0 : w12.cell? ⟨gb343, 0, none⟩ = some (.int .i64 0) := (blk_cell BK343.out 0).trans rfl; have hcz14_1 : w12.cell? ⟨gb343, 1, none⟩ = some (.int .i64 0) := (blk_cell BK343.out 1).trans rfl; have hcz14_2 : w12.cell? ⟨gb343, 2, none⟩ = some (.int .i64 0) := (blk_cell BK343.out 2).trans rfl; have hcz14_3 : w12.cell? ⟨gb343, 3, none⟩ = some (.int .i64 0) := (blk_cell BK343.out 3).trans rfl; have hfz14_0 := blk_frozen BK343.out 0; have hfz14_1 := blk_frozen BK343.out 1; have hfz14_2 := blk_frozen BK343.out 2; have hfz14_3 := blk_frozen BK343.out 3; have hcz15_0 : w12.cell? ⟨gb337, 0, none⟩ = some (.int .i64 t330) := (blk_cell BK337.out 0).trans rfl; have hcz15_1 : w12.cell? ⟨gb337, 1, none⟩ = some (.int .i64 t331) := (blk_cell BK337.out 1).trans rfl; have hcz15_2 : w12.cell? ⟨gb337, 2, none⟩ = some (.int .i64 t332) := (blk_cell BK337.out 2).trans rfl; have hcz15_3 : w12.cell? ⟨gb337, 3, none⟩ = some (.int .i64 t333) := (blk_cell BK337.out 3).trans rfl; have hfz15_0 := blk_frozen BK337.out 0; have hfz15_1 := blk_frozen BK337.out 1; have hfz15_2 := blk_frozen BK337.out 2; have hfz15_3 := blk_frozen BK337.out 3) | ((with_reducible refine gate_callee (f := 20) rfl ?_); refine goesL_ (some 52) rfl rfl Try.func20 (by kernel_rfl) rfl #[.agg #[.int .i64 t330, .int .i64 t331, .int .i64 t332, .int .i64 t333], .int .i64 t334, .int .i64 t335, .int .i64 t336] rfl (q_6) ?_; (with_reducible refine (spec_LostBytes.calls k t330 t331 t332 t333 t334 t335 t336 t344 t345 t346 t347 t348 _ A6.out).mono ?_); rintro e w16 ⟨rfl, hb⟩; refine ⟨_, rfl, ?_⟩; have n0_ := Aside0.mk (blk_below (g := gb337) (o := .cells #[.int .i64 t330, .int .i64 t331, .int .i64 t332, .int .i64 t333] 37 (0, 0)) (by (with_reducible repeat (first | refine blk_drewN ?_ _ | refine blk_drew ?_ | refine blk_alloc ?_ _)); refine blk_far ?_ NB337_343.out _; (with_reducible repeat (first | refine blk_drewN ?_ _ | refine blk_drew ?_ | refine blk_alloc ?_ _)); refine blk_far ?_ NB337_343.out _; (with_reducible repeat (first | refine blk_drewN ?_ _ | refine blk_drew ?_ | refine blk_alloc ?_ _)); refine blk_far ?_ NB337_343.out _; (with_reducible repeat (first | refine blk_drewN ?_ _ | refine blk_drew ?_ | refine blk_alloc ?_ _)); refine blk_far ?_ NB337_343.out _; (with_reducible repeat (first | refine blk_drewN ?_ _ | refine blk_drew ?_ | refine blk_alloc ?_ _)); exact BK337.out) hb); have n1_ := Aside0.mk (blk_below (g := gb343) (o := .cells #[.int .i64 t338, .int .i64 t339, .int .i64 t340, .int .i64 t341] 37 (0, 0)) (by (with_reducible repeat (first | refine blk_drewN ?_ _ | refine blk_drew ?_ | refine blk_alloc ?_ _)); refine blk_put (cs := #[.int .i64 t338, .int .i64 t339, .int .i64 t340, .int .i64 0]) ?_ 3 _ rfl; (with_reducible repeat (first | refine blk_drewN ?_ _ | refine blk_drew ?_ | refine blk_alloc ?_ _)); refine blk_put (cs := #[.int .i64 t338, .int .i64 t339, .int .i64 0, .int .i64 0]) ?_ 2 _ rfl; (with_reducible repeat (first | refine blk_drewN ?_ _ | refine blk_drew ?_ | refine blk_alloc ?_ _)); refine blk_put (cs := #[.int .i64 t338, .int .i64 0, .int .i64 0, .int .i64 0]) ?_ 1 _ rfl; (with_reducible repeat (first | refine blk_drewN ?_ _ | refine blk_drew ?_ | refine blk_alloc ?_ _)); refine blk_put (cs := #[.int .i64 0, .int .i64 0, .int .i64 0, .int .i64 0]) ?_ 0 _ rfl; (with_reducible repeat (first | refine blk_drewN ?_ _ | refine blk_drew ?_ | refine blk_alloc ?_ _)); exact BK343.out) hb); have n2_ := Aside0.mk (below_step (q_155) hb); clear BK337; clear BK343; clear HB; have BK337 := n0_; have BK343 := n1_; have HB := n2_; clear n0_ n1_ n2_; (try clear hb); (try clear hb2); (try clear hk); (try clear hi)) | ((with_reducible refine gate_dst (N := 11) rfl ?_); refine box_event ?hg (N := 11) ?hd (cs := #[.int .i64 0, .int .i64 0, .int .i64 0, .int .i64 0]) (t := 37) ?hr ?_; (case hd => rfl); (case hg => rfl); (case hr => first | (go_simp; done) | (go_simp; rfl)); intro gb349 hg w17 hbox hb; have n0_ := Aside0.mk (blk_below (g := gb337) (o := .cells #[.int .i64 t330, .int .i64 t331, .int .i64 t332, .int .i64 t333] 37 (0, 0)) (q_151) hb); have n1_ := Aside0.mk (blk_below (g := gb343) (o := .cells #[.int .i64 t338, .int .i64 t339, .int .i64 t340, .int .i64 t341] 37 (0, 0)) (q_156) hb); have n2_ := Aside0.mk (below_step (q_155) hb); have n3_ := Aside0.mk (hbox); have n4_ := Aside0.mk ((q_157 : w.heap.size ≤ gb349)); have n5_ := Aside0.mk ((q_157 : w.heap.size ≤ gb349)); have n6_ := Aside0.mk ((q_153 : gb337 ≠ gb349)); have n7_ := Aside0.mk ((q_154 : gb349 ≠ gb337)); have n8_ := Aside0.mk ((q_158 : gb343 ≠ gb349)); have n9_ := Aside0.mk ((q_159 : gb349 ≠ gb343)); clear BK337; clear BK343; clear HB; have BK337 := n0_; have BK343 := n1_; have HB := n2_; have BK349 := n3_; have GW349 := n4_; have GE349 := n5_; have NB337_349 := n6_; have NB349_337 := n7_; have NB343_349 := n8_; have NB349_343 := n9_; clear n0_ n1_ n2_ n3_ n4_ n5_ n6_ n7_ n8_ n9_; clear hb hbox hg; have hnb18 := NB349_337.out; have hnc18 := NB337_349.out; have hnb19 := NB349_343.out; have hnc19 := NB343_349.out; have hcz20_0 : w17.cell? ⟨gb349, 0, none⟩ = some (.int .i64 0) := (blk_cell BK349.out 0).trans rfl; have hcz20_1 : w17.cell? ⟨gb349, 1, none⟩ = some (.int .i64 0) := (blk_cell BK349.out 1).trans rfl; have hcz20_2 : w17.cell? ⟨gb349, 2, none⟩ = some (.int .i64 0) := (blk_cell BK349.out 2).trans rfl; have hcz20_3 : w17.cell? ⟨gb349, 3, none⟩ = some (.int .i64 0) := (blk_cell BK349.out 3).trans rfl; have hfz20_0 := blk_frozen BK349.out 0; have hfz20_1 := blk_frozen BK349.out 1; have hfz20_2 := blk_frozen BK349.out 2; have hfz20_3 := blk_frozen BK349.out 3))
  (try simp only [Act.put, List.setIfInBounds_toArray, List.set_cons_zero, List.set_cons_succ])
  go_cut [62] (fun v62 wc => ∃ (kq : Nat) (x62_6 : Bool), v62 = .bool x62_6 ∧ Aside0 (laws_FnWindow.j0 kq l1 t334 t335 t336 t342 x62_6 t330 t331 t332 t333 t338 t339 t340 t341 = some r) ∧ Aside0 (kq ≤ k) ∧ Aside0 (wc.heap[gb337]? = some (.cells #[.int .i64 t330, .int .i64 t331, .int .i64 t332, .int .i64 t333] 37 (0, 0))) ∧ Aside0 (wc.heap[gb343]? = some (.cells #[.int .i64 t338, .int .i64 t339, .int .i64 t340, .int .i64 t341] 37 (0, 0))) ∧ Aside0 (wc.heap[gb349]? = some (.cells #[.int .i64 t344, .int .i64 t345, .int .i64 t346, .int .i64 t347] 37 (0, 0))) ∧ Aside0 (Below w.heap.size w wc))
  case first =>
   have H := HC7.out
   clear HC7
   by_cases c21 : (t342 != t348) = true
   ·as_aux_lemma =>
     rw [if_pos c21] at H
     have c21b0 : (t342 != t348) = true := c21
     (try (have c21b1 : decide (t342 = t348) = false := by simpa using c21))
     (try (have c21b2 : (t342 == t348) = false := by simpa using c21))
     (try (have c21b3 : ¬ (t342 = t348) := by simpa using c21))
     clear c21
     (first | rw [c21b0] | (simp only [i64_w, i32_w]; rw [c21b0]) | skip)
     have H' := Aside0.mk H
     clear H
     go_wp2
     go_meet
     case rel => exact ⟨_, (true), (q_9), H', ⟨q_17⟩, ⟨q_160⟩, ⟨q_161⟩, ⟨q_162⟩, ⟨q_163⟩⟩
   ·as_aux_lemma =>
     rw [if_neg c21] at H
     have c21b0 : (t342 != t348) = false := by simpa using c21
     (try (have c21b1 : decide (t342 = t348) = true := by simpa using c21))
     (try (have c21b2 : (t342 == t348) = true := by simpa using c21))
     clear c21
     (first | rw [c21b0] | (simp only [i64_w, i32_w]; rw [c21b0]) | skip)
     have H' := Aside0.mk H
     clear H
     have hnb22 := NB343_337.out
     have hnc22 := NB337_343.out
     have hnb23 := NB343_349.out
     have hnc23 := NB349_343.out
     have hcz24_0 : w17.cell? ⟨gb343, 0, none⟩ = some (.int .i64 t338) := (blk_cell BK343.out 0).trans rfl
     have hcz24_1 : w17.cell? ⟨gb343, 1, none⟩ = some (.int .i64 t339) := (blk_cell BK343.out 1).trans rfl
     have hcz24_2 : w17.cell? ⟨gb343, 2, none⟩ = some (.int .i64 t340) := (blk_cell BK343.out 2).trans rfl
     have hcz24_3 : w17.cell? ⟨gb343, 3, none⟩ = some (.int .i64 t341) := (blk_cell BK343.out 3).trans rfl
     have hfz24_0 := blk_frozen BK343.out 0
     have hfz24_1 := blk_frozen BK343.out 1
     have hfz24_2 := blk_frozen BK343.out 2
     have hfz24_3 := blk_frozen BK343.out 3
     have hnb25 := NB349_337.out
     have hnc25 := NB337_349.out
     have hcz26_0 : w17.cell? ⟨gb349, 0, none⟩ = some (.int .i64 0) := (blk_cell BK349.out 0).trans rfl
     have hcz26_1 : w17.cell? ⟨gb349, 1, none⟩ = some (.int .i64 0) := (blk_cell BK349.out 1).trans rfl
     have hcz26_2 : w17.cell? ⟨gb349, 2, none⟩ = some (.int .i64 0) := (blk_cell BK349.out 2).trans rfl
     have hcz26_3 : w17.cell? ⟨gb349, 3, none⟩ = some (.int .i64 0) := (blk_cell BK349.out 3).trans rfl
     have hfz26_0 := blk_frozen BK349.out 0
     have hfz26_1 := blk_frozen BK349.out 1
     have hfz26_2 := blk_frozen BK349.out 2
     have hfz26_3 := blk_frozen BK349.out 3
     go_wp2
     go_meet
     case rel => exact ⟨_, ((!(t338 == t344) || (!(t339 == t345) || (!(t340 == t346) || (!(t341 == t347)))))), (q_9), H', ⟨q_17⟩, ⟨q_160⟩, ⟨q_161⟩, ⟨q_162⟩, ⟨q_163⟩⟩
  case rest =>
   clear HC7
   try clear c1; try clear c2; try clear p2; try clear c3; try clear c3b0; try clear c5; try clear p6; try clear c13; try clear c18; try clear c19; try clear c20; try clear c21; try clear c21b0; try clear c21b1; try clear c21b2; try clear c22; try clear c23; try clear c25; try clear hcz10_0; try clear hcz10_1; try clear hcz10_2; try clear hcz10_3; try clear hcz14_0; try clear hcz14_1; try clear hcz14_2; try clear hcz14_3; try clear hcz15_0; try clear hcz15_1; try clear hcz15_2; try clear hcz15_3; try clear hcz20_0; try clear hcz20_1; try clear hcz20_2; try clear hcz20_3; try clear hcz24_0; try clear hcz24_1; try clear hcz24_2; try clear hcz24_3; try clear hcz26_0; try clear hcz26_1; try clear hcz26_2; try clear hcz26_3; try clear hfz10_0; try clear hfz10_1; try clear hfz10_2; try clear hfz10_3; try clear hfz14_0; try clear hfz14_1; try clear hfz14_2; try clear hfz14_3; try clear hfz15_0; try clear hfz15_1; try clear hfz15_2; try clear hfz15_3; try clear hfz20_0; try clear hfz20_1; try clear hfz20_2; try clear hfz20_3; try clear hfz24_0; try clear hfz24_1; try clear hfz24_2; try clear hfz24_3; try clear hfz26_0; try clear hfz26_1; try clear hfz26_2; try clear hfz26_3
   obtain ⟨kq, x62_6, rfl, HA, HJ6, BK337, BK343, BK349, HB⟩ := hcut
   cases kq with
   | zero => exact absurd HA.out (by simp [laws_FnWindow.j0])
   | succ kj6 =>
    have H := HA.out
    clear HA
    simp only [laws_FnWindow.j0] at H
    by_cases c27 : x62_6 = true
    ·as_aux_lemma =>
      subst c27
      have H1 : (some false) = some r := by rw [if_pos rfl] at H; exact H
      clear H
      have H := H1
      clear H1
      obtain rfl := Option.some.inj H
      go_wp2
      go_ret
      exact ⟨q_2, q_163⟩
    ·replace c27 := Bool.eq_false_iff.mpr c27
     subst c27
     have H1 : (if t342 = true then (if (wrap64 (Int.tdiv t330 2)) < 2400 then (laws_FnWindow.j1 kj6 l1 t334 t335 t336 2400 t330 t331 t332 t333 t338 t339 t340 t341) else (laws_FnWindow.j1 kj6 l1 t334 t335 t336 (wrap64 (Int.tdiv t330 2)) t330 t331 t332 t333 t338 t339 t340 t341)) else (laws_FnWindow.j4 kj6 l1)) = some r := by rw [if_neg (show ¬ (false = true) by decide)] at H; exact H
     clear H
     have H := H1
     clear H1
     have HC28 := Aside0.mk H
     clear H
     go_upto_if 63 with (fail)
     go_cut [] (fun wc => ∃ (kq : Nat), Aside0 (laws_FnWindow.j4 kq l1 = some r) ∧ Aside0 (kq ≤ kj6) ∧ Aside0 (wc.heap[gb337]? = some (.cells #[.int .i64 t330, .int .i64 t331, .int .i64 t332, .int .i64 t333] 37 (0, 0))) ∧ Aside0 (wc.heap[gb343]? = some (.cells #[.int .i64 t338, .int .i64 t339, .int .i64 t340, .int .i64 t341] 37 (0, 0))) ∧ Aside0 (wc.heap[gb349]? = some (.cells #[.int .i64 t344, .int .i64 t345, .int .i64 t346, .int .i64 t347] 37 (0, 0))) ∧ Aside0 (Below w.heap.size w wc))
     case first =>
      have H := HC28.out
      clear HC28
      by_cases c29 : t342 = true
      ·subst c29
       have H1 : (if (wrap64 (Int.tdiv t330 2)) < 2400 then (laws_FnWindow.j1 kj6 l1 t334 t335 t336 2400 t330 t331 t332 t333 t338 t339 t340 t341) else (laws_FnWindow.j1 kj6 l1 t334 t335 t336 (wrap64 (Int.tdiv t330 2)) t330 t331 t332 t333 t338 t339 t340 t341)) = some r := by rw [if_pos rfl] at H; exact H
       clear H
       have H := H1
       clear H1
       have HC30 := Aside0.mk H
       clear H
       have hnb31 := NB337_343.out
       have hnc31 := NB343_337.out
       have hnb32 := NB337_349.out
       have hnc32 := NB349_337.out
       have hcz33_0 : wc.cell? ⟨gb337, 0, none⟩ = some (.int .i64 t330) := (blk_cell BK337.out 0).trans rfl
       have hcz33_1 : wc.cell? ⟨gb337, 1, none⟩ = some (.int .i64 t331) := (blk_cell BK337.out 1).trans rfl
       have hcz33_2 : wc.cell? ⟨gb337, 2, none⟩ = some (.int .i64 t332) := (blk_cell BK337.out 2).trans rfl
       have hcz33_3 : wc.cell? ⟨gb337, 3, none⟩ = some (.int .i64 t333) := (blk_cell BK337.out 3).trans rfl
       have hfz33_0 := blk_frozen BK337.out 0
       have hfz33_1 := blk_frozen BK337.out 1
       have hfz33_2 := blk_frozen BK337.out 2
       have hfz33_3 := blk_frozen BK337.out 3
       go_upto_if 68 with (fail)
       go_cut [13] (fun v13 wc => ∃ (kq : Nat) (x13_29 : Int), v13 = .int .i64 x13_29 ∧ Aside0 (laws_FnWindow.j1 kq l1 t334 t335 t336 x13_29 t330 t331 t332 t333 t338 t339 t340 t341 = some r) ∧ Aside0 (kq ≤ kj6) ∧ Aside0 (wc.heap[gb337]? = some (.cells #[.int .i64 t330, .int .i64 t331, .int .i64 t332, .int .i64 t333] 37 (0, 0))) ∧ Aside0 (wc.heap[gb343]? = some (.cells #[.int .i64 t338, .int .i64 t339, .int .i64 t340, .int .i64 t341] 37 (0, 0))) ∧ Aside0 (wc.heap[gb349]? = some (.cells #[.int .i64 t344, .int .i64 t345, .int .i64 t346, .int .i64 t347] 37 (0, 0))) ∧ Aside0 (Below w.heap.size w wc))
       case first =>
        have H := HC30.out
        clear HC30
        by_cases c34 : (wrap64 (Int.tdiv t330 2)) < 2400
        ·as_aux_lemma =>
          rw [if_pos c34] at H
          have c34b0 : decide ((wrap64 (Int.tdiv t330 2)) < 2400) = true := decide_eq_true c34
          clear c34
          (first | rw [c34b0] | (simp only [i64_w, i32_w]; rw [c34b0]) | skip)
          have H' := Aside0.mk H
          clear H
          go_wp2
          go_meet
          case rel => exact ⟨_, (2400), (q_9), H', ⟨q_164⟩, ⟨q_151⟩, ⟨q_156⟩, ⟨q_165⟩, ⟨q_163⟩⟩
        ·as_aux_lemma =>
          rw [if_neg c34] at H
          have c34b0 : decide ((wrap64 (Int.tdiv t330 2)) < 2400) = false := decide_eq_false c34
          clear c34
          (first | rw [c34b0] | (simp only [i64_w, i32_w]; rw [c34b0]) | skip)
          have H' := Aside0.mk H
          clear H
          go_wp2
          go_meet
          case rel => exact ⟨_, (wrap64 (Int.tdiv t330 2)), (q_9), H', ⟨q_164⟩, ⟨q_151⟩, ⟨q_156⟩, ⟨q_165⟩, ⟨q_163⟩⟩
       case rest =>
        clear HC30
        try clear c1; try clear c2; try clear p2; try clear c3; try clear c3b0; try clear c5; try clear p6; try clear c13; try clear c18; try clear c19; try clear c20; try clear c21; try clear c21b0; try clear c21b1; try clear c21b2; try clear c22; try clear c23; try clear c25; try clear c27; try clear c29; try clear c31; try clear c32; try clear c34; try clear c34b0; try clear hcz10_0; try clear hcz10_1; try clear hcz10_2; try clear hcz10_3; try clear hcz14_0; try clear hcz14_1; try clear hcz14_2; try clear hcz14_3; try clear hcz15_0; try clear hcz15_1; try clear hcz15_2; try clear hcz15_3; try clear hcz20_0; try clear hcz20_1; try clear hcz20_2; try clear hcz20_3; try clear hcz24_0; try clear hcz24_1; try clear hcz24_2; try clear hcz24_3; try clear hcz26_0; try clear hcz26_1; try clear hcz26_2; try clear hcz26_3; try clear hcz33_0; try clear hcz33_1; try clear hcz33_2; try clear hcz33_3; try clear hfz10_0; try clear hfz10_1; try clear hfz10_2; try clear hfz10_3; try clear hfz14_0; try clear hfz14_1; try clear hfz14_2; try clear hfz14_3; try clear hfz15_0; try clear hfz15_1; try clear hfz15_2; try clear hfz15_3; try clear hfz20_0; try clear hfz20_1; try clear hfz20_2; try clear hfz20_3; try clear hfz24_0; try clear hfz24_1; try clear hfz24_2; try clear hfz24_3; try clear hfz26_0; try clear hfz26_1; try clear hfz26_2; try clear hfz26_3; try clear hfz33_0; try clear hfz33_1; try clear hfz33_2; try clear hfz33_3; try clear p2; try clear p6
        obtain ⟨kq, x13_29, rfl, HA, HJ29, BK337, BK343, BK349, HB⟩ := hcut
        cases kq with
        | zero => exact absurd HA.out (by simp [laws_FnWindow.j1])
        | succ kj29 =>
         have H := HA.out
         clear HA
         simp only [laws_FnWindow.j1] at H
         have HC35 := Aside0.mk H
         clear H
         go_upto_region 12 with (fail)
         go_cut [105] (fun v105 wc => ∃ (kq : Nat) (x105_34 : Bool), v105 = .bool x105_34 ∧ Aside0 (laws_FnWindow.j2 kq l1 t336 x105_34 t338 t339 t340 t341 = some r) ∧ Aside0 (kq ≤ kj29) ∧ Aside0 (wc.heap[gb337]? = some (.cells #[.int .i64 t330, .int .i64 t331, .int .i64 t332, .int .i64 t333] 37 (0, 0))) ∧ Aside0 (wc.heap[gb343]? = some (.cells #[.int .i64 t338, .int .i64 t339, .int .i64 t340, .int .i64 t341] 37 (0, 0))) ∧ Aside0 (wc.heap[gb349]? = some (.cells #[.int .i64 t344, .int .i64 t345, .int .i64 t346, .int .i64 t347] 37 (0, 0))) ∧ Aside0 (Below w.heap.size w wc))
         case first =>
          have H := HC35.out
          clear HC35
          replace H := Option.bind_eq_some_iff.mp H
          obtain ⟨t350, A360, H⟩ := H
          replace H : (if t350 = true then (if t341 = (wrap64 (t333 - t334)) then (if t335 > t332 then (if t338 = x13_29 then (if t335 ≤ t332 then (laws_FnWindow.j2 kj29 l1 t336 (t338 != t330) t338 t339 t340 t341) else (laws_FnWindow.j2 kj29 l1 t336 false t338 t339 t340 t341)) else (laws_FnWindow.j2 kj29 l1 t336 true t338 t339 t340 t341)) else (if t335 ≤ t332 then (laws_FnWindow.j2 kj29 l1 t336 (t338 != t330) t338 t339 t340 t341) else (laws_FnWindow.j2 kj29 l1 t336 false t338 t339 t340 t341))) else (laws_FnWindow.j2 kj29 l1 t336 true t338 t339 t340 t341)) else (laws_FnWindow.j2 kj29 l1 t336 true t338 t339 t340 t341)) = some r := H
          have A36 := Aside0.mk A360
          clear A360
          by_cases c37 : t350 = true
          ·subst c37
           have H1 : (if t341 = (wrap64 (t333 - t334)) then (if t335 > t332 then (if t338 = x13_29 then (if t335 ≤ t332 then (laws_FnWindow.j2 kj29 l1 t336 (t338 != t330) t338 t339 t340 t341) else (laws_FnWindow.j2 kj29 l1 t336 false t338 t339 t340 t341)) else (laws_FnWindow.j2 kj29 l1 t336 true t338 t339 t340 t341)) else (if t335 ≤ t332 then (laws_FnWindow.j2 kj29 l1 t336 (t338 != t330) t338 t339 t340 t341) else (laws_FnWindow.j2 kj29 l1 t336 false t338 t339 t340 t341))) else (laws_FnWindow.j2 kj29 l1 t336 true t338 t339 t340 t341)) = some r := by rw [if_pos rfl] at H; exact H
           clear H
           have H := H1
           clear H1
           by_cases c38 : t341 = (wrap64 (t333 - t334))
           ·rw [if_pos c38] at H
            have c38b0 : (t341 == (wrap64 (t333 - t334))) = true := beq_iff_eq.mpr c38
            have c38b1 : (t341 != (wrap64 (t333 - t334))) = false := bne_eq_false_iff_eq.mpr c38
            clear c38
            (first | rw [c38b0] | (simp only [i64_w, i32_w]; rw [c38b0]) | skip)
            by_cases c39 : t335 > t332
            ·rw [if_pos c39] at H
             have c39b0 : decide (t332 < t335) = true := decide_eq_true c39
             clear c39
             by_cases c40 : t338 = x13_29
             ·rw [if_pos c40] at H
              have c40b0 : (t338 == x13_29) = true := beq_iff_eq.mpr c40
              have c40b1 : (t338 != x13_29) = false := bne_eq_false_iff_eq.mpr c40
              clear c40
              by_cases c41 : t335 ≤ t332
              ·as_aux_lemma =>
                rw [if_pos c41] at H
                have c41b0 : decide (t335 ≤ t332) = true := decide_eq_true c41
                clear c41
                have H' := Aside0.mk H
                clear H
                have hnb42 := NB343_337.out
                have hnc42 := NB337_343.out
                have hnb43 := NB343_349.out
                have hnc43 := NB349_343.out
                have hcz44_0 : wc.cell? ⟨gb343, 0, none⟩ = some (.int .i64 t338) := (blk_cell BK343.out 0).trans rfl
                have hcz44_1 : wc.cell? ⟨gb343, 1, none⟩ = some (.int .i64 t339) := (blk_cell BK343.out 1).trans rfl
                have hcz44_2 : wc.cell? ⟨gb343, 2, none⟩ = some (.int .i64 t340) := (blk_cell BK343.out 2).trans rfl
                have hcz44_3 : wc.cell? ⟨gb343, 3, none⟩ = some (.int .i64 t341) := (blk_cell BK343.out 3).trans rfl
                have hfz44_0 := blk_frozen BK343.out 0
                have hfz44_1 := blk_frozen BK343.out 1
                have hfz44_2 := blk_frozen BK343.out 2
                have hfz44_3 := blk_frozen BK343.out 3
                go_wp2_with (first | ((with_reducible refine gate_callee (f := 21) rfl ?_); refine goesL_ (some 70) rfl rfl Try.func21 (by kernel_rfl) rfl #[.agg #[.int .i64 t338, .int .i64 t339, .int .i64 t340, .int .i64 t341]] rfl (q_6) ?_; (with_reducible refine (impl_GoodWindow.calls t338 t339 t340 t341 true _ A36.out).mono ?_); rintro e w45 ⟨rfl, hb⟩; refine ⟨_, rfl, ?_⟩; have n0_ := Aside0.mk (blk_below (g := gb337) (o := .cells #[.int .i64 t330, .int .i64 t331, .int .i64 t332, .int .i64 t333] 37 (0, 0)) (q_151) hb); have n1_ := Aside0.mk (blk_below (g := gb343) (o := .cells #[.int .i64 t338, .int .i64 t339, .int .i64 t340, .int .i64 t341] 37 (0, 0)) (q_156) hb); have n2_ := Aside0.mk (blk_below (g := gb349) (o := .cells #[.int .i64 t344, .int .i64 t345, .int .i64 t346, .int .i64 t347] 37 (0, 0)) (q_165) hb); have n3_ := Aside0.mk (below_step (q_163) hb); clear BK337; clear BK343; clear BK349; clear HB; have BK337 := n0_; have BK343 := n1_; have BK349 := n2_; have HB := n3_; clear n0_ n1_ n2_ n3_; (try clear hb); (try clear hb2); (try clear hk); (try clear hi); have hcz46_0 : w45.cell? ⟨gb343, 0, none⟩ = some (.int .i64 t338) := (blk_cell BK343.out 0).trans rfl; have hcz46_1 : w45.cell? ⟨gb343, 1, none⟩ = some (.int .i64 t339) := (blk_cell BK343.out 1).trans rfl; have hcz46_2 : w45.cell? ⟨gb343, 2, none⟩ = some (.int .i64 t340) := (blk_cell BK343.out 2).trans rfl; have hcz46_3 : w45.cell? ⟨gb343, 3, none⟩ = some (.int .i64 t341) := (blk_cell BK343.out 3).trans rfl; have hfz46_0 := blk_frozen BK343.out 0; have hfz46_1 := blk_frozen BK343.out 1; have hfz46_2 := blk_frozen BK343.out 2; have hfz46_3 := blk_frozen BK343.out 3; have hnb47 := NB337_349.out; have hnc47 := NB349_337.out; have hcz48_0 : w45.cell? ⟨gb337, 0, none⟩ = some (.int .i64 t330) := (blk_cell BK337.out 0).trans rfl; have hcz48_1 : w45.cell? ⟨gb337, 1, none⟩ = some (.int .i64 t331) := (blk_cell BK337.out 1).trans rfl; have hcz48_2 : w45.cell? ⟨gb337, 2, none⟩ = some (.int .i64 t332) := (blk_cell BK337.out 2).trans rfl; have hcz48_3 : w45.cell? ⟨gb337, 3, none⟩ = some (.int .i64 t333) := (blk_cell BK337.out 3).trans rfl; have hfz48_0 := blk_frozen BK337.out 0; have hfz48_1 := blk_frozen BK337.out 1; have hfz48_2 := blk_frozen BK337.out 2; have hfz48_3 := blk_frozen BK337.out 3))
                go_meet
                case rel => exact ⟨_, ((t338 != t330)), (q_9), H', ⟨q_166⟩, ⟨q_151⟩, ⟨q_156⟩, ⟨q_165⟩, ⟨q_163⟩⟩
              ·as_aux_lemma =>
                rw [if_neg c41] at H
                have c41b0 : decide (t335 ≤ t332) = false := decide_eq_false c41
                clear c41
                have H' := Aside0.mk H
                clear H
                have hnb49 := NB343_337.out
                have hnc49 := NB337_343.out
                have hnb50 := NB343_349.out
                have hnc50 := NB349_343.out
                have hcz51_0 : wc.cell? ⟨gb343, 0, none⟩ = some (.int .i64 t338) := (blk_cell BK343.out 0).trans rfl
                have hcz51_1 : wc.cell? ⟨gb343, 1, none⟩ = some (.int .i64 t339) := (blk_cell BK343.out 1).trans rfl
                have hcz51_2 : wc.cell? ⟨gb343, 2, none⟩ = some (.int .i64 t340) := (blk_cell BK343.out 2).trans rfl
                have hcz51_3 : wc.cell? ⟨gb343, 3, none⟩ = some (.int .i64 t341) := (blk_cell BK343.out 3).trans rfl
                have hfz51_0 := blk_frozen BK343.out 0
                have hfz51_1 := blk_frozen BK343.out 1
                have hfz51_2 := blk_frozen BK343.out 2
                have hfz51_3 := blk_frozen BK343.out 3
                go_wp2_with (first | ((with_reducible refine gate_callee (f := 21) rfl ?_); refine goesL_ (some 70) rfl rfl Try.func21 (by kernel_rfl) rfl #[.agg #[.int .i64 t338, .int .i64 t339, .int .i64 t340, .int .i64 t341]] rfl (q_6) ?_; (with_reducible refine (impl_GoodWindow.calls t338 t339 t340 t341 true _ A36.out).mono ?_); rintro e w52 ⟨rfl, hb⟩; refine ⟨_, rfl, ?_⟩; have n0_ := Aside0.mk (blk_below (g := gb337) (o := .cells #[.int .i64 t330, .int .i64 t331, .int .i64 t332, .int .i64 t333] 37 (0, 0)) (q_151) hb); have n1_ := Aside0.mk (blk_below (g := gb343) (o := .cells #[.int .i64 t338, .int .i64 t339, .int .i64 t340, .int .i64 t341] 37 (0, 0)) (q_156) hb); have n2_ := Aside0.mk (blk_below (g := gb349) (o := .cells #[.int .i64 t344, .int .i64 t345, .int .i64 t346, .int .i64 t347] 37 (0, 0)) (q_165) hb); have n3_ := Aside0.mk (below_step (q_163) hb); clear BK337; clear BK343; clear BK349; clear HB; have BK337 := n0_; have BK343 := n1_; have BK349 := n2_; have HB := n3_; clear n0_ n1_ n2_ n3_; (try clear hb); (try clear hb2); (try clear hk); (try clear hi); have hcz53_0 : w52.cell? ⟨gb343, 0, none⟩ = some (.int .i64 t338) := (blk_cell BK343.out 0).trans rfl; have hcz53_1 : w52.cell? ⟨gb343, 1, none⟩ = some (.int .i64 t339) := (blk_cell BK343.out 1).trans rfl; have hcz53_2 : w52.cell? ⟨gb343, 2, none⟩ = some (.int .i64 t340) := (blk_cell BK343.out 2).trans rfl; have hcz53_3 : w52.cell? ⟨gb343, 3, none⟩ = some (.int .i64 t341) := (blk_cell BK343.out 3).trans rfl; have hfz53_0 := blk_frozen BK343.out 0; have hfz53_1 := blk_frozen BK343.out 1; have hfz53_2 := blk_frozen BK343.out 2; have hfz53_3 := blk_frozen BK343.out 3; have hnb54 := NB337_349.out; have hnc54 := NB349_337.out; have hcz55_0 : w52.cell? ⟨gb337, 0, none⟩ = some (.int .i64 t330) := (blk_cell BK337.out 0).trans rfl; have hcz55_1 : w52.cell? ⟨gb337, 1, none⟩ = some (.int .i64 t331) := (blk_cell BK337.out 1).trans rfl; have hcz55_2 : w52.cell? ⟨gb337, 2, none⟩ = some (.int .i64 t332) := (blk_cell BK337.out 2).trans rfl; have hcz55_3 : w52.cell? ⟨gb337, 3, none⟩ = some (.int .i64 t333) := (blk_cell BK337.out 3).trans rfl; have hfz55_0 := blk_frozen BK337.out 0; have hfz55_1 := blk_frozen BK337.out 1; have hfz55_2 := blk_frozen BK337.out 2; have hfz55_3 := blk_frozen BK337.out 3))
                go_meet
                case rel => exact ⟨_, (false), (q_9), H', ⟨q_166⟩, ⟨q_151⟩, ⟨q_156⟩, ⟨q_165⟩, ⟨q_163⟩⟩
             ·as_aux_lemma =>
               rw [if_neg c40] at H
               have c40b0 : (t338 == x13_29) = false := beq_eq_false_iff_ne.mpr c40
               have c40b1 : (t338 != x13_29) = true := bne_iff_ne.mpr c40
               have H' := Aside0.mk H
               clear H
               have hnb56 := NB343_337.out
               have hnc56 := NB337_343.out
               have hnb57 := NB343_349.out
               have hnc57 := NB349_343.out
               have hcz58_0 : wc.cell? ⟨gb343, 0, none⟩ = some (.int .i64 t338) := (blk_cell BK343.out 0).trans rfl
               have hcz58_1 : wc.cell? ⟨gb343, 1, none⟩ = some (.int .i64 t339) := (blk_cell BK343.out 1).trans rfl
               have hcz58_2 : wc.cell? ⟨gb343, 2, none⟩ = some (.int .i64 t340) := (blk_cell BK343.out 2).trans rfl
               have hcz58_3 : wc.cell? ⟨gb343, 3, none⟩ = some (.int .i64 t341) := (blk_cell BK343.out 3).trans rfl
               have hfz58_0 := blk_frozen BK343.out 0
               have hfz58_1 := blk_frozen BK343.out 1
               have hfz58_2 := blk_frozen BK343.out 2
               have hfz58_3 := blk_frozen BK343.out 3
               go_wp2_with (first | ((with_reducible refine gate_callee (f := 21) rfl ?_); refine goesL_ (some 70) rfl rfl Try.func21 (by kernel_rfl) rfl #[.agg #[.int .i64 t338, .int .i64 t339, .int .i64 t340, .int .i64 t341]] rfl (q_6) ?_; (with_reducible refine (impl_GoodWindow.calls t338 t339 t340 t341 true _ A36.out).mono ?_); rintro e w59 ⟨rfl, hb⟩; refine ⟨_, rfl, ?_⟩; have n0_ := Aside0.mk (blk_below (g := gb337) (o := .cells #[.int .i64 t330, .int .i64 t331, .int .i64 t332, .int .i64 t333] 37 (0, 0)) (q_151) hb); have n1_ := Aside0.mk (blk_below (g := gb343) (o := .cells #[.int .i64 t338, .int .i64 t339, .int .i64 t340, .int .i64 t341] 37 (0, 0)) (q_156) hb); have n2_ := Aside0.mk (blk_below (g := gb349) (o := .cells #[.int .i64 t344, .int .i64 t345, .int .i64 t346, .int .i64 t347] 37 (0, 0)) (q_165) hb); have n3_ := Aside0.mk (below_step (q_163) hb); clear BK337; clear BK343; clear BK349; clear HB; have BK337 := n0_; have BK343 := n1_; have BK349 := n2_; have HB := n3_; clear n0_ n1_ n2_ n3_; (try clear hb); (try clear hb2); (try clear hk); (try clear hi); have hcz60_0 : w59.cell? ⟨gb343, 0, none⟩ = some (.int .i64 t338) := (blk_cell BK343.out 0).trans rfl; have hcz60_1 : w59.cell? ⟨gb343, 1, none⟩ = some (.int .i64 t339) := (blk_cell BK343.out 1).trans rfl; have hcz60_2 : w59.cell? ⟨gb343, 2, none⟩ = some (.int .i64 t340) := (blk_cell BK343.out 2).trans rfl; have hcz60_3 : w59.cell? ⟨gb343, 3, none⟩ = some (.int .i64 t341) := (blk_cell BK343.out 3).trans rfl; have hfz60_0 := blk_frozen BK343.out 0; have hfz60_1 := blk_frozen BK343.out 1; have hfz60_2 := blk_frozen BK343.out 2; have hfz60_3 := blk_frozen BK343.out 3; have hnb61 := NB337_349.out; have hnc61 := NB349_337.out; have hcz62_0 : w59.cell? ⟨gb337, 0, none⟩ = some (.int .i64 t330) := (blk_cell BK337.out 0).trans rfl; have hcz62_1 : w59.cell? ⟨gb337, 1, none⟩ = some (.int .i64 t331) := (blk_cell BK337.out 1).trans rfl; have hcz62_2 : w59.cell? ⟨gb337, 2, none⟩ = some (.int .i64 t332) := (blk_cell BK337.out 2).trans rfl; have hcz62_3 : w59.cell? ⟨gb337, 3, none⟩ = some (.int .i64 t333) := (blk_cell BK337.out 3).trans rfl; have hfz62_0 := blk_frozen BK337.out 0; have hfz62_1 := blk_frozen BK337.out 1; have hfz62_2 := blk_frozen BK337.out 2; have hfz62_3 := blk_frozen BK337.out 3))
               go_meet
               case rel => exact ⟨_, (true), (q_9), H', ⟨q_166⟩, ⟨q_151⟩, ⟨q_156⟩, ⟨q_165⟩, ⟨q_163⟩⟩
            ·rw [if_neg c39] at H
             have c39b0 : decide (t332 < t335) = false := decide_eq_false c39
             clear c39
             by_cases c63 : t335 ≤ t332
             ·as_aux_lemma =>
               rw [if_pos c63] at H
               have c63b0 : decide (t335 ≤ t332) = true := decide_eq_true c63
               clear c63
               have H' := Aside0.mk H
               clear H
               have hnb64 := NB343_337.out
               have hnc64 := NB337_343.out
               have hnb65 := NB343_349.out
               have hnc65 := NB349_343.out
               have hcz66_0 : wc.cell? ⟨gb343, 0, none⟩ = some (.int .i64 t338) := (blk_cell BK343.out 0).trans rfl
               have hcz66_1 : wc.cell? ⟨gb343, 1, none⟩ = some (.int .i64 t339) := (blk_cell BK343.out 1).trans rfl
               have hcz66_2 : wc.cell? ⟨gb343, 2, none⟩ = some (.int .i64 t340) := (blk_cell BK343.out 2).trans rfl
               have hcz66_3 : wc.cell? ⟨gb343, 3, none⟩ = some (.int .i64 t341) := (blk_cell BK343.out 3).trans rfl
               have hfz66_0 := blk_frozen BK343.out 0
               have hfz66_1 := blk_frozen BK343.out 1
               have hfz66_2 := blk_frozen BK343.out 2
               have hfz66_3 := blk_frozen BK343.out 3
               go_wp2_with (first | ((with_reducible refine gate_callee (f := 21) rfl ?_); refine goesL_ (some 70) rfl rfl Try.func21 (by kernel_rfl) rfl #[.agg #[.int .i64 t338, .int .i64 t339, .int .i64 t340, .int .i64 t341]] rfl (q_6) ?_; (with_reducible refine (impl_GoodWindow.calls t338 t339 t340 t341 true _ A36.out).mono ?_); rintro e w67 ⟨rfl, hb⟩; refine ⟨_, rfl, ?_⟩; have n0_ := Aside0.mk (blk_below (g := gb337) (o := .cells #[.int .i64 t330, .int .i64 t331, .int .i64 t332, .int .i64 t333] 37 (0, 0)) (q_151) hb); have n1_ := Aside0.mk (blk_below (g := gb343) (o := .cells #[.int .i64 t338, .int .i64 t339, .int .i64 t340, .int .i64 t341] 37 (0, 0)) (q_156) hb); have n2_ := Aside0.mk (blk_below (g := gb349) (o := .cells #[.int .i64 t344, .int .i64 t345, .int .i64 t346, .int .i64 t347] 37 (0, 0)) (q_165) hb); have n3_ := Aside0.mk (below_step (q_163) hb); clear BK337; clear BK343; clear BK349; clear HB; have BK337 := n0_; have BK343 := n1_; have BK349 := n2_; have HB := n3_; clear n0_ n1_ n2_ n3_; (try clear hb); (try clear hb2); (try clear hk); (try clear hi); have hcz68_0 : w67.cell? ⟨gb343, 0, none⟩ = some (.int .i64 t338) := (blk_cell BK343.out 0).trans rfl; have hcz68_1 : w67.cell? ⟨gb343, 1, none⟩ = some (.int .i64 t339) := (blk_cell BK343.out 1).trans rfl; have hcz68_2 : w67.cell? ⟨gb343, 2, none⟩ = some (.int .i64 t340) := (blk_cell BK343.out 2).trans rfl; have hcz68_3 : w67.cell? ⟨gb343, 3, none⟩ = some (.int .i64 t341) := (blk_cell BK343.out 3).trans rfl; have hfz68_0 := blk_frozen BK343.out 0; have hfz68_1 := blk_frozen BK343.out 1; have hfz68_2 := blk_frozen BK343.out 2; have hfz68_3 := blk_frozen BK343.out 3; have hnb69 := NB337_349.out; have hnc69 := NB349_337.out; have hcz70_0 : w67.cell? ⟨gb337, 0, none⟩ = some (.int .i64 t330) := (blk_cell BK337.out 0).trans rfl; have hcz70_1 : w67.cell? ⟨gb337, 1, none⟩ = some (.int .i64 t331) := (blk_cell BK337.out 1).trans rfl; have hcz70_2 : w67.cell? ⟨gb337, 2, none⟩ = some (.int .i64 t332) := (blk_cell BK337.out 2).trans rfl; have hcz70_3 : w67.cell? ⟨gb337, 3, none⟩ = some (.int .i64 t333) := (blk_cell BK337.out 3).trans rfl; have hfz70_0 := blk_frozen BK337.out 0; have hfz70_1 := blk_frozen BK337.out 1; have hfz70_2 := blk_frozen BK337.out 2; have hfz70_3 := blk_frozen BK337.out 3))
               go_meet
               case rel => exact ⟨_, ((t338 != t330)), (q_9), H', ⟨q_166⟩, ⟨q_151⟩, ⟨q_156⟩, ⟨q_165⟩, ⟨q_163⟩⟩
             ·as_aux_lemma =>
               rw [if_neg c63] at H
               have c63b0 : decide (t335 ≤ t332) = false := decide_eq_false c63
               clear c63
               have H' := Aside0.mk H
               clear H
               have hnb71 := NB343_337.out
               have hnc71 := NB337_343.out
               have hnb72 := NB343_349.out
               have hnc72 := NB349_343.out
               have hcz73_0 : wc.cell? ⟨gb343, 0, none⟩ = some (.int .i64 t338) := (blk_cell BK343.out 0).trans rfl
               have hcz73_1 : wc.cell? ⟨gb343, 1, none⟩ = some (.int .i64 t339) := (blk_cell BK343.out 1).trans rfl
               have hcz73_2 : wc.cell? ⟨gb343, 2, none⟩ = some (.int .i64 t340) := (blk_cell BK343.out 2).trans rfl
               have hcz73_3 : wc.cell? ⟨gb343, 3, none⟩ = some (.int .i64 t341) := (blk_cell BK343.out 3).trans rfl
               have hfz73_0 := blk_frozen BK343.out 0
               have hfz73_1 := blk_frozen BK343.out 1
               have hfz73_2 := blk_frozen BK343.out 2
               have hfz73_3 := blk_frozen BK343.out 3
               go_wp2_with (first | ((with_reducible refine gate_callee (f := 21) rfl ?_); refine goesL_ (some 70) rfl rfl Try.func21 (by kernel_rfl) rfl #[.agg #[.int .i64 t338, .int .i64 t339, .int .i64 t340, .int .i64 t341]] rfl (q_6) ?_; (with_reducible refine (impl_GoodWindow.calls t338 t339 t340 t341 true _ A36.out).mono ?_); rintro e w74 ⟨rfl, hb⟩; refine ⟨_, rfl, ?_⟩; have n0_ := Aside0.mk (blk_below (g := gb337) (o := .cells #[.int .i64 t330, .int .i64 t331, .int .i64 t332, .int .i64 t333] 37 (0, 0)) (q_151) hb); have n1_ := Aside0.mk (blk_below (g := gb343) (o := .cells #[.int .i64 t338, .int .i64 t339, .int .i64 t340, .int .i64 t341] 37 (0, 0)) (q_156) hb); have n2_ := Aside0.mk (blk_below (g := gb349) (o := .cells #[.int .i64 t344, .int .i64 t345, .int .i64 t346, .int .i64 t347] 37 (0, 0)) (q_165) hb); have n3_ := Aside0.mk (below_step (q_163) hb); clear BK337; clear BK343; clear BK349; clear HB; have BK337 := n0_; have BK343 := n1_; have BK349 := n2_; have HB := n3_; clear n0_ n1_ n2_ n3_; (try clear hb); (try clear hb2); (try clear hk); (try clear hi); have hcz75_0 : w74.cell? ⟨gb343, 0, none⟩ = some (.int .i64 t338) := (blk_cell BK343.out 0).trans rfl; have hcz75_1 : w74.cell? ⟨gb343, 1, none⟩ = some (.int .i64 t339) := (blk_cell BK343.out 1).trans rfl; have hcz75_2 : w74.cell? ⟨gb343, 2, none⟩ = some (.int .i64 t340) := (blk_cell BK343.out 2).trans rfl; have hcz75_3 : w74.cell? ⟨gb343, 3, none⟩ = some (.int .i64 t341) := (blk_cell BK343.out 3).trans rfl; have hfz75_0 := blk_frozen BK343.out 0; have hfz75_1 := blk_frozen BK343.out 1; have hfz75_2 := blk_frozen BK343.out 2; have hfz75_3 := blk_frozen BK343.out 3; have hnb76 := NB337_349.out; have hnc76 := NB349_337.out; have hcz77_0 : w74.cell? ⟨gb337, 0, none⟩ = some (.int .i64 t330) := (blk_cell BK337.out 0).trans rfl; have hcz77_1 : w74.cell? ⟨gb337, 1, none⟩ = some (.int .i64 t331) := (blk_cell BK337.out 1).trans rfl; have hcz77_2 : w74.cell? ⟨gb337, 2, none⟩ = some (.int .i64 t332) := (blk_cell BK337.out 2).trans rfl; have hcz77_3 : w74.cell? ⟨gb337, 3, none⟩ = some (.int .i64 t333) := (blk_cell BK337.out 3).trans rfl; have hfz77_0 := blk_frozen BK337.out 0; have hfz77_1 := blk_frozen BK337.out 1; have hfz77_2 := blk_frozen BK337.out 2; have hfz77_3 := blk_frozen BK337.out 3))
               go_meet
               case rel => exact ⟨_, (false), (q_9), H', ⟨q_166⟩, ⟨q_151⟩, ⟨q_156⟩, ⟨q_165⟩, ⟨q_163⟩⟩
           ·as_aux_lemma =>
             rw [if_neg c38] at H
             have c38b0 : (t341 == (wrap64 (t333 - t334))) = false := beq_eq_false_iff_ne.mpr c38
             have c38b1 : (t341 != (wrap64 (t333 - t334))) = true := bne_iff_ne.mpr c38
             (first | rw [c38b0] | (simp only [i64_w, i32_w]; rw [c38b0]) | skip)
             have H' := Aside0.mk H
             clear H
             have hnb78 := NB343_337.out
             have hnc78 := NB337_343.out
             have hnb79 := NB343_349.out
             have hnc79 := NB349_343.out
             have hcz80_0 : wc.cell? ⟨gb343, 0, none⟩ = some (.int .i64 t338) := (blk_cell BK343.out 0).trans rfl
             have hcz80_1 : wc.cell? ⟨gb343, 1, none⟩ = some (.int .i64 t339) := (blk_cell BK343.out 1).trans rfl
             have hcz80_2 : wc.cell? ⟨gb343, 2, none⟩ = some (.int .i64 t340) := (blk_cell BK343.out 2).trans rfl
             have hcz80_3 : wc.cell? ⟨gb343, 3, none⟩ = some (.int .i64 t341) := (blk_cell BK343.out 3).trans rfl
             have hfz80_0 := blk_frozen BK343.out 0
             have hfz80_1 := blk_frozen BK343.out 1
             have hfz80_2 := blk_frozen BK343.out 2
             have hfz80_3 := blk_frozen BK343.out 3
             go_wp2_with (first | ((with_reducible refine gate_callee (f := 21) rfl ?_); refine goesL_ (some 70) rfl rfl Try.func21 (by kernel_rfl) rfl #[.agg #[.int .i64 t338, .int .i64 t339, .int .i64 t340, .int .i64 t341]] rfl (q_6) ?_; (with_reducible refine (impl_GoodWindow.calls t338 t339 t340 t341 true _ A36.out).mono ?_); rintro e w81 ⟨rfl, hb⟩; refine ⟨_, rfl, ?_⟩; have n0_ := Aside0.mk (blk_below (g := gb337) (o := .cells #[.int .i64 t330, .int .i64 t331, .int .i64 t332, .int .i64 t333] 37 (0, 0)) (q_151) hb); have n1_ := Aside0.mk (blk_below (g := gb343) (o := .cells #[.int .i64 t338, .int .i64 t339, .int .i64 t340, .int .i64 t341] 37 (0, 0)) (q_156) hb); have n2_ := Aside0.mk (blk_below (g := gb349) (o := .cells #[.int .i64 t344, .int .i64 t345, .int .i64 t346, .int .i64 t347] 37 (0, 0)) (q_165) hb); have n3_ := Aside0.mk (below_step (q_163) hb); clear BK337; clear BK343; clear BK349; clear HB; have BK337 := n0_; have BK343 := n1_; have BK349 := n2_; have HB := n3_; clear n0_ n1_ n2_ n3_; (try clear hb); (try clear hb2); (try clear hk); (try clear hi); have hcz82_0 : w81.cell? ⟨gb343, 0, none⟩ = some (.int .i64 t338) := (blk_cell BK343.out 0).trans rfl; have hcz82_1 : w81.cell? ⟨gb343, 1, none⟩ = some (.int .i64 t339) := (blk_cell BK343.out 1).trans rfl; have hcz82_2 : w81.cell? ⟨gb343, 2, none⟩ = some (.int .i64 t340) := (blk_cell BK343.out 2).trans rfl; have hcz82_3 : w81.cell? ⟨gb343, 3, none⟩ = some (.int .i64 t341) := (blk_cell BK343.out 3).trans rfl; have hfz82_0 := blk_frozen BK343.out 0; have hfz82_1 := blk_frozen BK343.out 1; have hfz82_2 := blk_frozen BK343.out 2; have hfz82_3 := blk_frozen BK343.out 3; have hnb83 := NB337_349.out; have hnc83 := NB349_337.out; have hcz84_0 : w81.cell? ⟨gb337, 0, none⟩ = some (.int .i64 t330) := (blk_cell BK337.out 0).trans rfl; have hcz84_1 : w81.cell? ⟨gb337, 1, none⟩ = some (.int .i64 t331) := (blk_cell BK337.out 1).trans rfl; have hcz84_2 : w81.cell? ⟨gb337, 2, none⟩ = some (.int .i64 t332) := (blk_cell BK337.out 2).trans rfl; have hcz84_3 : w81.cell? ⟨gb337, 3, none⟩ = some (.int .i64 t333) := (blk_cell BK337.out 3).trans rfl; have hfz84_0 := blk_frozen BK337.out 0; have hfz84_1 := blk_frozen BK337.out 1; have hfz84_2 := blk_frozen BK337.out 2; have hfz84_3 := blk_frozen BK337.out 3))
             go_meet
             case rel => exact ⟨_, (true), (q_9), H', ⟨q_166⟩, ⟨q_151⟩, ⟨q_156⟩, ⟨q_165⟩, ⟨q_163⟩⟩
          ·as_aux_lemma =>
            replace c37 := Bool.eq_false_iff.mpr c37
            subst c37
            have H1 : (laws_FnWindow.j2 kj29 l1 t336 true t338 t339 t340 t341) = some r := by rw [if_neg (show ¬ (false = true) by decide)] at H; exact H
            clear H
            have H := H1
            clear H1
            have H' := Aside0.mk H
            clear H
            have hnb85 := NB343_337.out
            have hnc85 := NB337_343.out
            have hnb86 := NB343_349.out
            have hnc86 := NB349_343.out
            have hcz87_0 : wc.cell? ⟨gb343, 0, none⟩ = some (.int .i64 t338) := (blk_cell BK343.out 0).trans rfl
            have hcz87_1 : wc.cell? ⟨gb343, 1, none⟩ = some (.int .i64 t339) := (blk_cell BK343.out 1).trans rfl
            have hcz87_2 : wc.cell? ⟨gb343, 2, none⟩ = some (.int .i64 t340) := (blk_cell BK343.out 2).trans rfl
            have hcz87_3 : wc.cell? ⟨gb343, 3, none⟩ = some (.int .i64 t341) := (blk_cell BK343.out 3).trans rfl
            have hfz87_0 := blk_frozen BK343.out 0
            have hfz87_1 := blk_frozen BK343.out 1
            have hfz87_2 := blk_frozen BK343.out 2
            have hfz87_3 := blk_frozen BK343.out 3
            go_wp2_with (first | ((with_reducible refine gate_callee (f := 21) rfl ?_); refine goesL_ (some 70) rfl rfl Try.func21 (by kernel_rfl) rfl #[.agg #[.int .i64 t338, .int .i64 t339, .int .i64 t340, .int .i64 t341]] rfl (q_6) ?_; (with_reducible refine (impl_GoodWindow.calls t338 t339 t340 t341 false _ A36.out).mono ?_); rintro e w88 ⟨rfl, hb⟩; refine ⟨_, rfl, ?_⟩; have n0_ := Aside0.mk (blk_below (g := gb337) (o := .cells #[.int .i64 t330, .int .i64 t331, .int .i64 t332, .int .i64 t333] 37 (0, 0)) (q_151) hb); have n1_ := Aside0.mk (blk_below (g := gb343) (o := .cells #[.int .i64 t338, .int .i64 t339, .int .i64 t340, .int .i64 t341] 37 (0, 0)) (q_156) hb); have n2_ := Aside0.mk (blk_below (g := gb349) (o := .cells #[.int .i64 t344, .int .i64 t345, .int .i64 t346, .int .i64 t347] 37 (0, 0)) (q_165) hb); have n3_ := Aside0.mk (below_step (q_163) hb); clear BK337; clear BK343; clear BK349; clear HB; have BK337 := n0_; have BK343 := n1_; have BK349 := n2_; have HB := n3_; clear n0_ n1_ n2_ n3_; (try clear hb); (try clear hb2); (try clear hk); (try clear hi)))
            go_meet
            case rel => exact ⟨_, (true), (q_9), H', ⟨q_166⟩, ⟨q_151⟩, ⟨q_156⟩, ⟨q_165⟩, ⟨q_163⟩⟩
         case rest =>
          clear HC35
          try clear c1; try clear c2; try clear p2; try clear c3; try clear c3b0; try clear c4; try clear c5; try clear c6; try clear p6; try clear c7; try clear c8; try clear c13; try clear c18; try clear c19; try clear c20; try clear c21; try clear c21b0; try clear c21b1; try clear c21b2; try clear c22; try clear c23; try clear c25; try clear c27; try clear c29; try clear c31; try clear c32; try clear c34; try clear c34b0; try clear c37; try clear c38; try clear c38b0; try clear c38b1; try clear c39; try clear c39b0; try clear c40; try clear c40b0; try clear c40b1; try clear c41; try clear c41b0; try clear c42; try clear c43; try clear c47; try clear c49; try clear c50; try clear c54; try clear c56; try clear c57; try clear c61; try clear c63; try clear c63b0; try clear c64; try clear p64; try clear c65; try clear c69; try clear c71; try clear c72; try clear c76; try clear c78; try clear c79; try clear c83; try clear c85; try clear c86; try clear hcz10_0; try clear hcz10_1; try clear hcz10_2; try clear hcz10_3; try clear hcz14_0; try clear hcz14_1; try clear hcz14_2; try clear hcz14_3; try clear hcz15_0; try clear hcz15_1; try clear hcz15_2; try clear hcz15_3; try clear hcz20_0; try clear hcz20_1; try clear hcz20_2; try clear hcz20_3; try clear hcz24_0; try clear hcz24_1; try clear hcz24_2; try clear hcz24_3; try clear hcz26_0; try clear hcz26_1; try clear hcz26_2; try clear hcz26_3; try clear hcz33_0; try clear hcz33_1; try clear hcz33_2; try clear hcz33_3; try clear hcz44_0; try clear hcz44_1; try clear hcz44_2; try clear hcz44_3; try clear hcz46_0; try clear hcz46_1; try clear hcz46_2; try clear hcz46_3; try clear hcz48_0; try clear hcz48_1; try clear hcz48_2; try clear hcz48_3; try clear hcz51_0; try clear hcz51_1; try clear hcz51_2; try clear hcz51_3; try clear hcz53_0; try clear hcz53_1; try clear hcz53_2; try clear hcz53_3; try clear hcz55_0; try clear hcz55_1; try clear hcz55_2; try clear hcz55_3; try clear hcz58_0; try clear hcz58_1; try clear hcz58_2; try clear hcz58_3; try clear hcz60_0; try clear hcz60_1; try clear hcz60_2; try clear hcz60_3; try clear hcz62_0; try clear hcz62_1; try clear hcz62_2; try clear hcz62_3; try clear hcz66_0; try clear hcz66_1; try clear hcz66_2; try clear hcz66_3; try clear hcz68_0; try clear hcz68_1; try clear hcz68_2; try clear hcz68_3; try clear hcz70_0; try clear hcz70_1; try clear hcz70_2; try clear hcz70_3; try clear hcz73_0; try clear hcz73_1; try clear hcz73_2; try clear hcz73_3; try clear hcz75_0; try clear hcz75_1; try clear hcz75_2; try clear hcz75_3; try clear hcz77_0; try clear hcz77_1; try clear hcz77_2; try clear hcz77_3; try clear hcz80_0; try clear hcz80_1; try clear hcz80_2; try clear hcz80_3; try clear hcz82_0; try clear hcz82_1; try clear hcz82_2; try clear hcz82_3; try clear hcz84_0; try clear hcz84_1; try clear hcz84_2; try clear hcz84_3; try clear hcz87_0; try clear hcz87_1; try clear hcz87_2; try clear hcz87_3; try clear hfz10_0; try clear hfz10_1; try clear hfz10_2; try clear hfz10_3; try clear hfz14_0; try clear hfz14_1; try clear hfz14_2; try clear hfz14_3; try clear hfz15_0; try clear hfz15_1; try clear hfz15_2; try clear hfz15_3; try clear hfz20_0; try clear hfz20_1; try clear hfz20_2; try clear hfz20_3; try clear hfz24_0; try clear hfz24_1; try clear hfz24_2; try clear hfz24_3; try clear hfz26_0; try clear hfz26_1; try clear hfz26_2; try clear hfz26_3; try clear hfz33_0; try clear hfz33_1; try clear hfz33_2; try clear hfz33_3; try clear hfz44_0; try clear hfz44_1; try clear hfz44_2; try clear hfz44_3; try clear hfz46_0; try clear hfz46_1; try clear hfz46_2; try clear hfz46_3; try clear hfz48_0; try clear hfz48_1; try clear hfz48_2; try clear hfz48_3; try clear hfz51_0; try clear hfz51_1; try clear hfz51_2; try clear hfz51_3; try clear hfz53_0; try clear hfz53_1; try clear hfz53_2; try clear hfz53_3; try clear hfz55_0; try clear hfz55_1; try clear hfz55_2; try clear hfz55_3; try clear hfz58_0; try clear hfz58_1; try clear hfz58_2; try clear hfz58_3; try clear hfz60_0; try clear hfz60_1; try clear hfz60_2; try clear hfz60_3; try clear hfz62_0; try clear hfz62_1; try clear hfz62_2; try clear hfz62_3; try clear hfz66_0; try clear hfz66_1; try clear hfz66_2; try clear hfz66_3; try clear hfz68_0; try clear hfz68_1; try clear hfz68_2; try clear hfz68_3; try clear hfz70_0; try clear hfz70_1; try clear hfz70_2; try clear hfz70_3; try clear hfz73_0; try clear hfz73_1; try clear hfz73_2; try clear hfz73_3; try clear hfz75_0; try clear hfz75_1; try clear hfz75_2; try clear hfz75_3; try clear hfz77_0; try clear hfz77_1; try clear hfz77_2; try clear hfz77_3; try clear hfz80_0; try clear hfz80_1; try clear hfz80_2; try clear hfz80_3; try clear hfz82_0; try clear hfz82_1; try clear hfz82_2; try clear hfz82_3; try clear hfz84_0; try clear hfz84_1; try clear hfz84_2; try clear hfz84_3; try clear hfz87_0; try clear hfz87_1; try clear hfz87_2; try clear hfz87_3; try clear p2; try clear p6
          obtain ⟨kq, x105_34, rfl, HA, HJ34, BK337, BK343, BK349, HB⟩ := hcut
          cases kq with
          | zero => exact absurd HA.out (by simp [laws_FnWindow.j2])
          | succ kj34 =>
           have H := HA.out
           clear HA
           simp only [laws_FnWindow.j2] at H
           by_cases c89 : x105_34 = true
           ·as_aux_lemma =>
             subst c89
             have H1 : (some false) = some r := by rw [if_pos rfl] at H; exact H
             clear H
             have H := H1
             clear H1
             obtain rfl := Option.some.inj H
             go_wp2
             go_ret
             exact ⟨q_2, q_163⟩
           ·replace c89 := Bool.eq_false_iff.mpr c89
            subst c89
            have H1 : ((impl_LostBytes.f kj34 t338 t339 t340 t341 0 t340 t336).bind fun bt351 => (if t340 ≥ 0 then (if bt351.2.2.2.2 = true then (laws_FnWindow.j3 kj34 l1 (bt351.1 != t338)) else (laws_FnWindow.j3 kj34 l1 true)) else (laws_FnWindow.j3 kj34 l1 false))) = some r := by rw [if_neg (show ¬ (false = true) by decide)] at H; exact H
            clear H
            have H := H1
            clear H1
            replace H := Option.bind_eq_some_iff.mp H
            obtain ⟨⟨t351, t352, t353, t354, t355⟩, A900, H⟩ := H
            replace H : (if t340 ≥ 0 then (if t355 = true then (laws_FnWindow.j3 kj34 l1 (t351 != t338)) else (laws_FnWindow.j3 kj34 l1 true)) else (laws_FnWindow.j3 kj34 l1 false)) = some r := H
            have A90 := Aside0.mk A900
            clear A900
            have HC91 := Aside0.mk H
            clear H
            have hnb92 := NB343_337.out
            have hnc92 := NB337_343.out
            have hnb93 := NB343_349.out
            have hnc93 := NB349_343.out
            have hcz94_0 : wc.cell? ⟨gb343, 0, none⟩ = some (.int .i64 t338) := (blk_cell BK343.out 0).trans rfl
            have hcz94_1 : wc.cell? ⟨gb343, 1, none⟩ = some (.int .i64 t339) := (blk_cell BK343.out 1).trans rfl
            have hcz94_2 : wc.cell? ⟨gb343, 2, none⟩ = some (.int .i64 t340) := (blk_cell BK343.out 2).trans rfl
            have hcz94_3 : wc.cell? ⟨gb343, 3, none⟩ = some (.int .i64 t341) := (blk_cell BK343.out 3).trans rfl
            have hfz94_0 := blk_frozen BK343.out 0
            have hfz94_1 := blk_frozen BK343.out 1
            have hfz94_2 := blk_frozen BK343.out 2
            have hfz94_3 := blk_frozen BK343.out 3
            go_upto_region 15 with (first | ((with_reducible refine gate_callee (f := 19) rfl ?_); refine goesL_ (some 111) rfl rfl Try.func19 (by kernel_rfl) rfl #[.agg #[.int .i64 t338, .int .i64 t339, .int .i64 t340, .int .i64 t341], .int .i64 0, .int .i64 t340, .int .i64 t336] rfl (q_6) ?_; (with_reducible refine (impl_LostBytes.calls kj34 t338 t339 t340 t341 0 t340 t336 t351 t352 t353 t354 t355 _ A90.out).mono ?_); rintro e w95 ⟨rfl, hb⟩; refine ⟨_, rfl, ?_⟩; have n0_ := Aside0.mk (blk_below (g := gb337) (o := .cells #[.int .i64 t330, .int .i64 t331, .int .i64 t332, .int .i64 t333] 37 (0, 0)) (q_151) hb); have n1_ := Aside0.mk (blk_below (g := gb343) (o := .cells #[.int .i64 t338, .int .i64 t339, .int .i64 t340, .int .i64 t341] 37 (0, 0)) (q_156) hb); have n2_ := Aside0.mk (blk_below (g := gb349) (o := .cells #[.int .i64 t344, .int .i64 t345, .int .i64 t346, .int .i64 t347] 37 (0, 0)) (q_165) hb); have n3_ := Aside0.mk (below_step (q_163) hb); clear BK337; clear BK343; clear BK349; clear HB; have BK337 := n0_; have BK343 := n1_; have BK349 := n2_; have HB := n3_; clear n0_ n1_ n2_ n3_; (try clear hb); (try clear hb2); (try clear hk); (try clear hi)) | ((with_reducible refine gate_dst (N := 14) rfl ?_); refine box_event ?hg (N := 14) ?hd (cs := #[.int .i64 0, .int .i64 0, .int .i64 0, .int .i64 0]) (t := 37) ?hr ?_; (case hd => rfl); (case hg => rfl); (case hr => first | (go_simp; done) | (go_simp; rfl)); intro gb356 hg w96 hbox hb; have n0_ := Aside0.mk (blk_below (g := gb337) (o := .cells #[.int .i64 t330, .int .i64 t331, .int .i64 t332, .int .i64 t333] 37 (0, 0)) (q_151) hb); have n1_ := Aside0.mk (blk_below (g := gb343) (o := .cells #[.int .i64 t338, .int .i64 t339, .int .i64 t340, .int .i64 t341] 37 (0, 0)) (q_156) hb); have n2_ := Aside0.mk (blk_below (g := gb349) (o := .cells #[.int .i64 t344, .int .i64 t345, .int .i64 t346, .int .i64 t347] 37 (0, 0)) (q_165) hb); have n3_ := Aside0.mk (below_step (q_163) hb); have n4_ := Aside0.mk (hbox); have n5_ := Aside0.mk ((q_167 : w.heap.size ≤ gb356)); have n6_ := Aside0.mk ((q_167 : w.heap.size ≤ gb356)); have n7_ := Aside0.mk ((q_153 : gb337 ≠ gb356)); have n8_ := Aside0.mk ((q_154 : gb356 ≠ gb337)); have n9_ := Aside0.mk ((q_158 : gb343 ≠ gb356)); have n10_ := Aside0.mk ((q_159 : gb356 ≠ gb343)); have n11_ := Aside0.mk ((q_168 : gb349 ≠ gb356)); have n12_ := Aside0.mk ((q_169 : gb356 ≠ gb349)); clear BK337; clear BK343; clear BK349; clear HB; have BK337 := n0_; have BK343 := n1_; have BK349 := n2_; have HB := n3_; have BK356 := n4_; have GW356 := n5_; have GE356 := n6_; have NB337_356 := n7_; have NB356_337 := n8_; have NB343_356 := n9_; have NB356_343 := n10_; have NB349_356 := n11_; have NB356_349 := n12_; clear n0_ n1_ n2_ n3_ n4_ n5_ n6_ n7_ n8_ n9_ n10_ n11_ n12_; clear hb hbox hg; have hnb97 := NB356_337.out; have hnc97 := NB337_356.out; have hnb98 := NB356_343.out; have hnc98 := NB343_356.out; have hnb99 := NB356_349.out; have hnc99 := NB349_356.out; have hcz100_0 : w96.cell? ⟨gb356, 0, none⟩ = some (.int .i64 0) := (blk_cell BK356.out 0).trans rfl; have hcz100_1 : w96.cell? ⟨gb356, 1, none⟩ = some (.int .i64 0) := (blk_cell BK356.out 1).trans rfl; have hcz100_2 : w96.cell? ⟨gb356, 2, none⟩ = some (.int .i64 0) := (blk_cell BK356.out 2).trans rfl; have hcz100_3 : w96.cell? ⟨gb356, 3, none⟩ = some (.int .i64 0) := (blk_cell BK356.out 3).trans rfl; have hfz100_0 := blk_frozen BK356.out 0; have hfz100_1 := blk_frozen BK356.out 1; have hfz100_2 := blk_frozen BK356.out 2; have hfz100_3 := blk_frozen BK356.out 3))
            (try simp only [Act.put, List.setIfInBounds_toArray, List.set_cons_zero, List.set_cons_succ])
            go_cut [127] (fun v127 wc => ∃ (kq : Nat) (x127_90 : Bool), v127 = .bool x127_90 ∧ Aside0 (laws_FnWindow.j3 kq l1 x127_90 = some r) ∧ Aside0 (kq ≤ kj34) ∧ Aside0 (wc.heap[gb337]? = some (.cells #[.int .i64 t330, .int .i64 t331, .int .i64 t332, .int .i64 t333] 37 (0, 0))) ∧ Aside0 (wc.heap[gb343]? = some (.cells #[.int .i64 t338, .int .i64 t339, .int .i64 t340, .int .i64 t341] 37 (0, 0))) ∧ Aside0 (wc.heap[gb349]? = some (.cells #[.int .i64 t344, .int .i64 t345, .int .i64 t346, .int .i64 t347] 37 (0, 0))) ∧ Aside0 (wc.heap[gb356]? = some (.cells #[.int .i64 t351, .int .i64 t352, .int .i64 t353, .int .i64 t354] 37 (0, 0))) ∧ Aside0 (Below w.heap.size w wc))
            case first =>
             have H := HC91.out
             clear HC91
             by_cases c101 : t340 ≥ 0
             ·rw [if_pos c101] at H
              have c101b0 : decide (0 ≤ t340) = true := decide_eq_true c101
              clear c101
              (first | rw [c101b0] | (simp only [i64_w, i32_w]; rw [c101b0]) | skip)
              by_cases c102 : t355 = true
              ·as_aux_lemma =>
                subst c102
                have H1 : (laws_FnWindow.j3 kj34 l1 (t351 != t338)) = some r := by rw [if_pos rfl] at H; exact H
                clear H
                have H := H1
                clear H1
                have H' := Aside0.mk H
                clear H
                have hnb103 := NB343_337.out
                have hnc103 := NB337_343.out
                have hnb104 := NB343_349.out
                have hnc104 := NB349_343.out
                have hnb105 := NB343_356.out
                have hnc105 := NB356_343.out
                have hcz106_0 : w96.cell? ⟨gb343, 0, none⟩ = some (.int .i64 t338) := (blk_cell BK343.out 0).trans rfl
                have hcz106_1 : w96.cell? ⟨gb343, 1, none⟩ = some (.int .i64 t339) := (blk_cell BK343.out 1).trans rfl
                have hcz106_2 : w96.cell? ⟨gb343, 2, none⟩ = some (.int .i64 t340) := (blk_cell BK343.out 2).trans rfl
                have hcz106_3 : w96.cell? ⟨gb343, 3, none⟩ = some (.int .i64 t341) := (blk_cell BK343.out 3).trans rfl
                have hfz106_0 := blk_frozen BK343.out 0
                have hfz106_1 := blk_frozen BK343.out 1
                have hfz106_2 := blk_frozen BK343.out 2
                have hfz106_3 := blk_frozen BK343.out 3
                have hnb107 := NB356_337.out
                have hnc107 := NB337_356.out
                have hnb108 := NB356_349.out
                have hnc108 := NB349_356.out
                have hcz109_0 : w96.cell? ⟨gb356, 0, none⟩ = some (.int .i64 0) := (blk_cell BK356.out 0).trans rfl
                have hcz109_1 : w96.cell? ⟨gb356, 1, none⟩ = some (.int .i64 0) := (blk_cell BK356.out 1).trans rfl
                have hcz109_2 : w96.cell? ⟨gb356, 2, none⟩ = some (.int .i64 0) := (blk_cell BK356.out 2).trans rfl
                have hcz109_3 : w96.cell? ⟨gb356, 3, none⟩ = some (.int .i64 0) := (blk_cell BK356.out 3).trans rfl
                have hfz109_0 := blk_frozen BK356.out 0
                have hfz109_1 := blk_frozen BK356.out 1
                have hfz109_2 := blk_frozen BK356.out 2
                have hfz109_3 := blk_frozen BK356.out 3
                go_wp2
                go_meet
                case rel => exact ⟨_, ((t351 != t338)), (q_9), H', ⟨q_170⟩, ⟨q_171⟩, ⟨q_172⟩, ⟨q_173⟩, ⟨q_174⟩, ⟨q_175⟩⟩
              ·as_aux_lemma =>
                replace c102 := Bool.eq_false_iff.mpr c102
                subst c102
                have H1 : (laws_FnWindow.j3 kj34 l1 true) = some r := by rw [if_neg (show ¬ (false = true) by decide)] at H; exact H
                clear H
                have H := H1
                clear H1
                have H' := Aside0.mk H
                clear H
                have hnb110 := NB343_337.out
                have hnc110 := NB337_343.out
                have hnb111 := NB343_349.out
                have hnc111 := NB349_343.out
                have hnb112 := NB343_356.out
                have hnc112 := NB356_343.out
                have hcz113_0 : w96.cell? ⟨gb343, 0, none⟩ = some (.int .i64 t338) := (blk_cell BK343.out 0).trans rfl
                have hcz113_1 : w96.cell? ⟨gb343, 1, none⟩ = some (.int .i64 t339) := (blk_cell BK343.out 1).trans rfl
                have hcz113_2 : w96.cell? ⟨gb343, 2, none⟩ = some (.int .i64 t340) := (blk_cell BK343.out 2).trans rfl
                have hcz113_3 : w96.cell? ⟨gb343, 3, none⟩ = some (.int .i64 t341) := (blk_cell BK343.out 3).trans rfl
                have hfz113_0 := blk_frozen BK343.out 0
                have hfz113_1 := blk_frozen BK343.out 1
                have hfz113_2 := blk_frozen BK343.out 2
                have hfz113_3 := blk_frozen BK343.out 3
                go_wp2
                go_meet
                case rel => exact ⟨_, (true), (q_9), H', ⟨q_170⟩, ⟨q_171⟩, ⟨q_172⟩, ⟨q_173⟩, ⟨q_174⟩, ⟨q_175⟩⟩
             ·as_aux_lemma =>
               rw [if_neg c101] at H
               have c101b0 : decide (0 ≤ t340) = false := decide_eq_false c101
               clear c101
               (first | rw [c101b0] | (simp only [i64_w, i32_w]; rw [c101b0]) | skip)
               have H' := Aside0.mk H
               clear H
               have hnb114 := NB343_337.out
               have hnc114 := NB337_343.out
               have hnb115 := NB343_349.out
               have hnc115 := NB349_343.out
               have hnb116 := NB343_356.out
               have hnc116 := NB356_343.out
               have hcz117_0 : w96.cell? ⟨gb343, 0, none⟩ = some (.int .i64 t338) := (blk_cell BK343.out 0).trans rfl
               have hcz117_1 : w96.cell? ⟨gb343, 1, none⟩ = some (.int .i64 t339) := (blk_cell BK343.out 1).trans rfl
               have hcz117_2 : w96.cell? ⟨gb343, 2, none⟩ = some (.int .i64 t340) := (blk_cell BK343.out 2).trans rfl
               have hcz117_3 : w96.cell? ⟨gb343, 3, none⟩ = some (.int .i64 t341) := (blk_cell BK343.out 3).trans rfl
               have hfz117_0 := blk_frozen BK343.out 0
               have hfz117_1 := blk_frozen BK343.out 1
               have hfz117_2 := blk_frozen BK343.out 2
               have hfz117_3 := blk_frozen BK343.out 3
               go_wp2
               go_meet
               case rel => exact ⟨_, (false), (q_9), H', ⟨q_170⟩, ⟨q_171⟩, ⟨q_172⟩, ⟨q_173⟩, ⟨q_174⟩, ⟨q_175⟩⟩
            case rest =>
             clear HC91
             try clear c1; try clear c2; try clear p2; try clear c3; try clear c3b0; try clear c4; try clear c5; try clear c6; try clear p6; try clear c7; try clear c8; try clear c9; try clear c10; try clear c11; try clear c13; try clear c18; try clear c19; try clear c20; try clear c21; try clear c21b0; try clear c21b1; try clear c21b2; try clear c22; try clear c23; try clear c25; try clear c27; try clear c29; try clear c31; try clear c32; try clear c34; try clear c34b0; try clear c37; try clear c38; try clear c38b0; try clear c38b1; try clear c39; try clear c39b0; try clear c40; try clear c40b0; try clear c40b1; try clear c41; try clear c41b0; try clear c42; try clear c43; try clear c47; try clear c49; try clear c50; try clear c54; try clear c56; try clear c57; try clear c61; try clear c63; try clear c63b0; try clear c64; try clear p64; try clear c65; try clear c69; try clear c71; try clear c72; try clear c76; try clear c78; try clear c79; try clear c83; try clear c85; try clear c86; try clear c89; try clear c92; try clear c93; try clear c97; try clear c98; try clear c99; try clear c101; try clear c101b0; try clear c102; try clear c103; try clear c104; try clear c105; try clear c107; try clear c108; try clear c110; try clear c111; try clear c112; try clear c114; try clear c115; try clear c116; try clear hcz100_0; try clear hcz100_1; try clear hcz100_2; try clear hcz100_3; try clear hcz106_0; try clear hcz106_1; try clear hcz106_2; try clear hcz106_3; try clear hcz109_0; try clear hcz109_1; try clear hcz109_2; try clear hcz109_3; try clear hcz10_0; try clear hcz10_1; try clear hcz10_2; try clear hcz10_3; try clear hcz113_0; try clear hcz113_1; try clear hcz113_2; try clear hcz113_3; try clear hcz117_0; try clear hcz117_1; try clear hcz117_2; try clear hcz117_3; try clear hcz14_0; try clear hcz14_1; try clear hcz14_2; try clear hcz14_3; try clear hcz15_0; try clear hcz15_1; try clear hcz15_2; try clear hcz15_3; try clear hcz20_0; try clear hcz20_1; try clear hcz20_2; try clear hcz20_3; try clear hcz24_0; try clear hcz24_1; try clear hcz24_2; try clear hcz24_3; try clear hcz26_0; try clear hcz26_1; try clear hcz26_2; try clear hcz26_3; try clear hcz33_0; try clear hcz33_1; try clear hcz33_2; try clear hcz33_3; try clear hcz44_0; try clear hcz44_1; try clear hcz44_2; try clear hcz44_3; try clear hcz46_0; try clear hcz46_1; try clear hcz46_2; try clear hcz46_3; try clear hcz48_0; try clear hcz48_1; try clear hcz48_2; try clear hcz48_3; try clear hcz51_0; try clear hcz51_1; try clear hcz51_2; try clear hcz51_3; try clear hcz53_0; try clear hcz53_1; try clear hcz53_2; try clear hcz53_3; try clear hcz55_0; try clear hcz55_1; try clear hcz55_2; try clear hcz55_3; try clear hcz58_0; try clear hcz58_1; try clear hcz58_2; try clear hcz58_3; try clear hcz60_0; try clear hcz60_1; try clear hcz60_2; try clear hcz60_3; try clear hcz62_0; try clear hcz62_1; try clear hcz62_2; try clear hcz62_3; try clear hcz66_0; try clear hcz66_1; try clear hcz66_2; try clear hcz66_3; try clear hcz68_0; try clear hcz68_1; try clear hcz68_2; try clear hcz68_3; try clear hcz70_0; try clear hcz70_1; try clear hcz70_2; try clear hcz70_3; try clear hcz73_0; try clear hcz73_1; try clear hcz73_2; try clear hcz73_3; try clear hcz75_0; try clear hcz75_1; try clear hcz75_2; try clear hcz75_3; try clear hcz77_0; try clear hcz77_1; try clear hcz77_2; try clear hcz77_3; try clear hcz80_0; try clear hcz80_1; try clear hcz80_2; try clear hcz80_3; try clear hcz82_0; try clear hcz82_1; try clear hcz82_2; try clear hcz82_3; try clear hcz84_0; try clear hcz84_1; try clear hcz84_2; try clear hcz84_3; try clear hcz87_0; try clear hcz87_1; try clear hcz87_2; try clear hcz87_3; try clear hcz94_0; try clear hcz94_1; try clear hcz94_2; try clear hcz94_3; try clear hfz100_0; try clear hfz100_1; try clear hfz100_2; try clear hfz100_3; try clear hfz106_0; try clear hfz106_1; try clear hfz106_2; try clear hfz106_3; try clear hfz109_0; try clear hfz109_1; try clear hfz109_2; try clear hfz109_3; try clear hfz10_0; try clear hfz10_1; try clear hfz10_2; try clear hfz10_3; try clear hfz113_0; try clear hfz113_1; try clear hfz113_2; try clear hfz113_3; try clear hfz117_0; try clear hfz117_1; try clear hfz117_2; try clear hfz117_3; try clear hfz14_0; try clear hfz14_1; try clear hfz14_2; try clear hfz14_3; try clear hfz15_0; try clear hfz15_1; try clear hfz15_2; try clear hfz15_3; try clear hfz20_0; try clear hfz20_1; try clear hfz20_2; try clear hfz20_3; try clear hfz24_0; try clear hfz24_1; try clear hfz24_2; try clear hfz24_3; try clear hfz26_0; try clear hfz26_1; try clear hfz26_2; try clear hfz26_3; try clear hfz33_0; try clear hfz33_1; try clear hfz33_2; try clear hfz33_3; try clear hfz44_0; try clear hfz44_1; try clear hfz44_2; try clear hfz44_3; try clear hfz46_0; try clear hfz46_1; try clear hfz46_2; try clear hfz46_3; try clear hfz48_0; try clear hfz48_1; try clear hfz48_2; try clear hfz48_3; try clear hfz51_0; try clear hfz51_1; try clear hfz51_2; try clear hfz51_3; try clear hfz53_0; try clear hfz53_1; try clear hfz53_2; try clear hfz53_3; try clear hfz55_0; try clear hfz55_1; try clear hfz55_2; try clear hfz55_3; try clear hfz58_0; try clear hfz58_1; try clear hfz58_2; try clear hfz58_3; try clear hfz60_0; try clear hfz60_1; try clear hfz60_2; try clear hfz60_3; try clear hfz62_0; try clear hfz62_1; try clear hfz62_2; try clear hfz62_3; try clear hfz66_0; try clear hfz66_1; try clear hfz66_2; try clear hfz66_3; try clear hfz68_0; try clear hfz68_1; try clear hfz68_2; try clear hfz68_3; try clear hfz70_0; try clear hfz70_1; try clear hfz70_2; try clear hfz70_3; try clear hfz73_0; try clear hfz73_1; try clear hfz73_2; try clear hfz73_3; try clear hfz75_0; try clear hfz75_1; try clear hfz75_2; try clear hfz75_3; try clear hfz77_0; try clear hfz77_1; try clear hfz77_2; try clear hfz77_3; try clear hfz80_0; try clear hfz80_1; try clear hfz80_2; try clear hfz80_3; try clear hfz82_0; try clear hfz82_1; try clear hfz82_2; try clear hfz82_3; try clear hfz84_0; try clear hfz84_1; try clear hfz84_2; try clear hfz84_3; try clear hfz87_0; try clear hfz87_1; try clear hfz87_2; try clear hfz87_3; try clear hfz94_0; try clear hfz94_1; try clear hfz94_2; try clear hfz94_3; try clear p2; try clear p6; try clear p64
             obtain ⟨kq, x127_90, rfl, HA, HJ90, BK337, BK343, BK349, BK356, HB⟩ := hcut
             cases kq with
             | zero => exact absurd HA.out (by simp [laws_FnWindow.j3])
             | succ kj90 =>
              have H := HA.out
              clear HA
              simp only [laws_FnWindow.j3] at H
              by_cases c118 : x127_90 = true
              ·as_aux_lemma =>
                subst c118
                have H1 : (some false) = some r := by rw [if_pos rfl] at H; exact H
                clear H
                have H := H1
                clear H1
                obtain rfl := Option.some.inj H
                go_wp2
                go_ret
                exact ⟨q_2, q_175⟩
              ·as_aux_lemma =>
                replace c118 := Bool.eq_false_iff.mpr c118
                subst c118
                have H1 : (laws_FnWindow.j4 kj90 l1) = some r := by rw [if_neg (show ¬ (false = true) by decide)] at H; exact H
                clear H
                have H := H1
                clear H1
                have H' := Aside0.mk H
                clear H
                go_wp2
                go_meet
                case rel => exact ⟨_, H', ⟨by have := HJ6.out; have := HJ29.out; have := HJ34.out; have := HJ90.out; first | omega | exact Nat.le_refl _⟩, ⟨q_151⟩, ⟨q_156⟩, ⟨q_165⟩, ⟨q_175⟩⟩
      ·as_aux_lemma =>
        replace c29 := Bool.eq_false_iff.mpr c29
        subst c29
        have H1 : (laws_FnWindow.j4 kj6 l1) = some r := by rw [if_neg (show ¬ (false = true) by decide)] at H; exact H
        clear H
        have H := H1
        clear H1
        have H' := Aside0.mk H
        clear H
        go_wp2
        go_meet
        case rel => exact ⟨_, H', ⟨q_164⟩, ⟨q_151⟩, ⟨q_156⟩, ⟨q_165⟩, ⟨q_163⟩⟩
     case rest =>
      clear HC28
      try clear c1; try clear c2; try clear p2; try clear c3; try clear c3b0; try clear c4; try clear c5; try clear c6; try clear p6; try clear c7; try clear c8; try clear c9; try clear c10; try clear c11; try clear c13; try clear c18; try clear c19; try clear c20; try clear c21; try clear c21b0; try clear c21b1; try clear c21b2; try clear c22; try clear c23; try clear c25; try clear c27; try clear c29; try clear c31; try clear c32; try clear c34; try clear c34b0; try clear c37; try clear c38; try clear c38b0; try clear c38b1; try clear c39; try clear c39b0; try clear c40; try clear c40b0; try clear c40b1; try clear c41; try clear c41b0; try clear c42; try clear c43; try clear c47; try clear c49; try clear c50; try clear c54; try clear c56; try clear c57; try clear c61; try clear c63; try clear c63b0; try clear c64; try clear p64; try clear c65; try clear c69; try clear c71; try clear c72; try clear c76; try clear c78; try clear c79; try clear c83; try clear c85; try clear c86; try clear c89; try clear c92; try clear c93; try clear c97; try clear c98; try clear c99; try clear c101; try clear c101b0; try clear c102; try clear c103; try clear c104; try clear c105; try clear c107; try clear c108; try clear c110; try clear c111; try clear c112; try clear c114; try clear c115; try clear c116; try clear c118; try clear hcz100_0; try clear hcz100_1; try clear hcz100_2; try clear hcz100_3; try clear hcz106_0; try clear hcz106_1; try clear hcz106_2; try clear hcz106_3; try clear hcz109_0; try clear hcz109_1; try clear hcz109_2; try clear hcz109_3; try clear hcz10_0; try clear hcz10_1; try clear hcz10_2; try clear hcz10_3; try clear hcz113_0; try clear hcz113_1; try clear hcz113_2; try clear hcz113_3; try clear hcz117_0; try clear hcz117_1; try clear hcz117_2; try clear hcz117_3; try clear hcz14_0; try clear hcz14_1; try clear hcz14_2; try clear hcz14_3; try clear hcz15_0; try clear hcz15_1; try clear hcz15_2; try clear hcz15_3; try clear hcz20_0; try clear hcz20_1; try clear hcz20_2; try clear hcz20_3; try clear hcz24_0; try clear hcz24_1; try clear hcz24_2; try clear hcz24_3; try clear hcz26_0; try clear hcz26_1; try clear hcz26_2; try clear hcz26_3; try clear hcz33_0; try clear hcz33_1; try clear hcz33_2; try clear hcz33_3; try clear hcz44_0; try clear hcz44_1; try clear hcz44_2; try clear hcz44_3; try clear hcz46_0; try clear hcz46_1; try clear hcz46_2; try clear hcz46_3; try clear hcz48_0; try clear hcz48_1; try clear hcz48_2; try clear hcz48_3; try clear hcz51_0; try clear hcz51_1; try clear hcz51_2; try clear hcz51_3; try clear hcz53_0; try clear hcz53_1; try clear hcz53_2; try clear hcz53_3; try clear hcz55_0; try clear hcz55_1; try clear hcz55_2; try clear hcz55_3; try clear hcz58_0; try clear hcz58_1; try clear hcz58_2; try clear hcz58_3; try clear hcz60_0; try clear hcz60_1; try clear hcz60_2; try clear hcz60_3; try clear hcz62_0; try clear hcz62_1; try clear hcz62_2; try clear hcz62_3; try clear hcz66_0; try clear hcz66_1; try clear hcz66_2; try clear hcz66_3; try clear hcz68_0; try clear hcz68_1; try clear hcz68_2; try clear hcz68_3; try clear hcz70_0; try clear hcz70_1; try clear hcz70_2; try clear hcz70_3; try clear hcz73_0; try clear hcz73_1; try clear hcz73_2; try clear hcz73_3; try clear hcz75_0; try clear hcz75_1; try clear hcz75_2; try clear hcz75_3; try clear hcz77_0; try clear hcz77_1; try clear hcz77_2; try clear hcz77_3; try clear hcz80_0; try clear hcz80_1; try clear hcz80_2; try clear hcz80_3; try clear hcz82_0; try clear hcz82_1; try clear hcz82_2; try clear hcz82_3; try clear hcz84_0; try clear hcz84_1; try clear hcz84_2; try clear hcz84_3; try clear hcz87_0; try clear hcz87_1; try clear hcz87_2; try clear hcz87_3; try clear hcz94_0; try clear hcz94_1; try clear hcz94_2; try clear hcz94_3; try clear hfz100_0; try clear hfz100_1; try clear hfz100_2; try clear hfz100_3; try clear hfz106_0; try clear hfz106_1; try clear hfz106_2; try clear hfz106_3; try clear hfz109_0; try clear hfz109_1; try clear hfz109_2; try clear hfz109_3; try clear hfz10_0; try clear hfz10_1; try clear hfz10_2; try clear hfz10_3; try clear hfz113_0; try clear hfz113_1; try clear hfz113_2; try clear hfz113_3; try clear hfz117_0; try clear hfz117_1; try clear hfz117_2; try clear hfz117_3; try clear hfz14_0; try clear hfz14_1; try clear hfz14_2; try clear hfz14_3; try clear hfz15_0; try clear hfz15_1; try clear hfz15_2; try clear hfz15_3; try clear hfz20_0; try clear hfz20_1; try clear hfz20_2; try clear hfz20_3; try clear hfz24_0; try clear hfz24_1; try clear hfz24_2; try clear hfz24_3; try clear hfz26_0; try clear hfz26_1; try clear hfz26_2; try clear hfz26_3; try clear hfz33_0; try clear hfz33_1; try clear hfz33_2; try clear hfz33_3; try clear hfz44_0; try clear hfz44_1; try clear hfz44_2; try clear hfz44_3; try clear hfz46_0; try clear hfz46_1; try clear hfz46_2; try clear hfz46_3; try clear hfz48_0; try clear hfz48_1; try clear hfz48_2; try clear hfz48_3; try clear hfz51_0; try clear hfz51_1; try clear hfz51_2; try clear hfz51_3; try clear hfz53_0; try clear hfz53_1; try clear hfz53_2; try clear hfz53_3; try clear hfz55_0; try clear hfz55_1; try clear hfz55_2; try clear hfz55_3; try clear hfz58_0; try clear hfz58_1; try clear hfz58_2; try clear hfz58_3; try clear hfz60_0; try clear hfz60_1; try clear hfz60_2; try clear hfz60_3; try clear hfz62_0; try clear hfz62_1; try clear hfz62_2; try clear hfz62_3; try clear hfz66_0; try clear hfz66_1; try clear hfz66_2; try clear hfz66_3; try clear hfz68_0; try clear hfz68_1; try clear hfz68_2; try clear hfz68_3; try clear hfz70_0; try clear hfz70_1; try clear hfz70_2; try clear hfz70_3; try clear hfz73_0; try clear hfz73_1; try clear hfz73_2; try clear hfz73_3; try clear hfz75_0; try clear hfz75_1; try clear hfz75_2; try clear hfz75_3; try clear hfz77_0; try clear hfz77_1; try clear hfz77_2; try clear hfz77_3; try clear hfz80_0; try clear hfz80_1; try clear hfz80_2; try clear hfz80_3; try clear hfz82_0; try clear hfz82_1; try clear hfz82_2; try clear hfz82_3; try clear hfz84_0; try clear hfz84_1; try clear hfz84_2; try clear hfz84_3; try clear hfz87_0; try clear hfz87_1; try clear hfz87_2; try clear hfz87_3; try clear hfz94_0; try clear hfz94_1; try clear hfz94_2; try clear hfz94_3; try clear p2; try clear p6; try clear p64
      obtain ⟨kq, HA, HJ27, BK337, BK343, BK349, HB⟩ := hcut
      cases kq with
      | zero => exact absurd HA.out (by simp [laws_FnWindow.j4])
      | succ kj27 =>
       have H := HA.out
       clear HA
       simp only [laws_FnWindow.j4] at H
       replace H := Option.bind_eq_some_iff.mp H
       obtain ⟨⟨t357, t358, t359, t360, t361⟩, A1190, H⟩ := H
       replace H : ((impl_SentBytes.f t357 t358 t359 t360 t361).bind fun bt363 => ((spec_SentBytes.f t357 t358 t359 t360 t361).bind fun bt369 => ((impl_RoomIn.f t357 t358 t359 t360).bind fun bt375 => (if (bt363.2.2.2.2 != bt369.2.2.2.2) = true then (laws_FnWindow.j5 kj27 true t357 t358 t359 t360) else (if bt363.2.2.2.2 = true then (if bt375.2 = true then (if t361 > bt375.1 then (laws_FnWindow.j5 kj27 true t357 t358 t359 t360) else (laws_FnWindow.j5 kj27 (bt363.2.2.2.1 != (wrap64 (t360 + t361))) t357 t358 t359 t360)) else (laws_FnWindow.j5 kj27 true t357 t358 t359 t360)) else (laws_FnWindow.j5 kj27 false t357 t358 t359 t360)))))) = some r := H
       have A119 := Aside0.mk A1190
       clear A1190
       replace H := Option.bind_eq_some_iff.mp H
       obtain ⟨⟨t363, t364, t365, t366, t367⟩, A1200, H⟩ := H
       replace H : ((spec_SentBytes.f t357 t358 t359 t360 t361).bind fun bt369 => ((impl_RoomIn.f t357 t358 t359 t360).bind fun bt375 => (if (t367 != bt369.2.2.2.2) = true then (laws_FnWindow.j5 kj27 true t357 t358 t359 t360) else (if t367 = true then (if bt375.2 = true then (if t361 > bt375.1 then (laws_FnWindow.j5 kj27 true t357 t358 t359 t360) else (laws_FnWindow.j5 kj27 (t366 != (wrap64 (t360 + t361))) t357 t358 t359 t360)) else (laws_FnWindow.j5 kj27 true t357 t358 t359 t360)) else (laws_FnWindow.j5 kj27 false t357 t358 t359 t360))))) = some r := H
       have A120 := Aside0.mk A1200
       clear A1200
       replace H := Option.bind_eq_some_iff.mp H
       obtain ⟨⟨t369, t370, t371, t372, t373⟩, A1210, H⟩ := H
       replace H : ((impl_RoomIn.f t357 t358 t359 t360).bind fun bt375 => (if (t367 != t373) = true then (laws_FnWindow.j5 kj27 true t357 t358 t359 t360) else (if t367 = true then (if bt375.2 = true then (if t361 > bt375.1 then (laws_FnWindow.j5 kj27 true t357 t358 t359 t360) else (laws_FnWindow.j5 kj27 (t366 != (wrap64 (t360 + t361))) t357 t358 t359 t360)) else (laws_FnWindow.j5 kj27 true t357 t358 t359 t360)) else (laws_FnWindow.j5 kj27 false t357 t358 t359 t360)))) = some r := H
       have A121 := Aside0.mk A1210
       clear A1210
       replace H := Option.bind_eq_some_iff.mp H
       obtain ⟨⟨t375, t376⟩, A1220, H⟩ := H
       replace H : (if (t367 != t373) = true then (laws_FnWindow.j5 kj27 true t357 t358 t359 t360) else (if t367 = true then (if t376 = true then (if t361 > t375 then (laws_FnWindow.j5 kj27 true t357 t358 t359 t360) else (laws_FnWindow.j5 kj27 (t366 != (wrap64 (t360 + t361))) t357 t358 t359 t360)) else (laws_FnWindow.j5 kj27 true t357 t358 t359 t360)) else (laws_FnWindow.j5 kj27 false t357 t358 t359 t360))) = some r := H
       have A122 := Aside0.mk A1220
       clear A1220
       have HC123 := Aside0.mk H
       clear H
       go_upto_region 21 with (first | ((with_reducible refine gate_callee (f := 22) rfl ?_); refine goesL_ (some 130) rfl rfl Try.func22 (by kernel_rfl) rfl #[.slice A1 l1.length c1] rfl (q_6) ?_; (with_reducible refine (spec_DrawSentBytes.calls kj27 _ _ l1 t357 t358 t359 t360 t361 _ ?side1 ?side2 A119.out).mono ?_); (case side1 => repeat (first | exact (Kd.C_below HR1.out HB.out) | (with_reducible refine Kd.C_alloc ?_ _) | (with_reducible refine Kd.C_drewN ?_ _) | (with_reducible refine Kd.C_drew ?_))); (case side2 => exact HC1.out); rintro e w124 ⟨rfl, hb⟩; refine ⟨_, rfl, ?_⟩; have n0_ := Aside0.mk (blk_below (g := gb337) (o := .cells #[.int .i64 t330, .int .i64 t331, .int .i64 t332, .int .i64 t333] 37 (0, 0)) (q_151) hb); have n1_ := Aside0.mk (blk_below (g := gb343) (o := .cells #[.int .i64 t338, .int .i64 t339, .int .i64 t340, .int .i64 t341] 37 (0, 0)) (q_156) hb); have n2_ := Aside0.mk (blk_below (g := gb349) (o := .cells #[.int .i64 t344, .int .i64 t345, .int .i64 t346, .int .i64 t347] 37 (0, 0)) (q_165) hb); have n3_ := Aside0.mk (below_step (q_163) hb); clear BK337; clear BK343; clear BK349; clear HB; have BK337 := n0_; have BK343 := n1_; have BK349 := n2_; have HB := n3_; clear n0_ n1_ n2_ n3_; (try clear hb); (try clear hb2); (try clear hk); (try clear hi)) | ((with_reducible refine gate_dst (N := 16) rfl ?_); refine box_event ?hg (N := 16) ?hd (cs := #[.int .i64 0, .int .i64 0, .int .i64 0, .int .i64 0]) (t := 37) ?hr ?_; (case hd => rfl); (case hg => rfl); (case hr => first | (go_simp; done) | (go_simp; rfl)); intro gb362 hg w125 hbox hb; have n0_ := Aside0.mk (blk_below (g := gb337) (o := .cells #[.int .i64 t330, .int .i64 t331, .int .i64 t332, .int .i64 t333] 37 (0, 0)) (q_151) hb); have n1_ := Aside0.mk (blk_below (g := gb343) (o := .cells #[.int .i64 t338, .int .i64 t339, .int .i64 t340, .int .i64 t341] 37 (0, 0)) (q_156) hb); have n2_ := Aside0.mk (blk_below (g := gb349) (o := .cells #[.int .i64 t344, .int .i64 t345, .int .i64 t346, .int .i64 t347] 37 (0, 0)) (q_165) hb); have n3_ := Aside0.mk (below_step (q_163) hb); have n4_ := Aside0.mk (hbox); have n5_ := Aside0.mk ((q_167 : w.heap.size ≤ gb362)); have n6_ := Aside0.mk ((q_167 : w.heap.size ≤ gb362)); have n7_ := Aside0.mk ((q_153 : gb337 ≠ gb362)); have n8_ := Aside0.mk ((q_154 : gb362 ≠ gb337)); have n9_ := Aside0.mk ((q_158 : gb343 ≠ gb362)); have n10_ := Aside0.mk ((q_159 : gb362 ≠ gb343)); have n11_ := Aside0.mk ((q_168 : gb349 ≠ gb362)); have n12_ := Aside0.mk ((q_169 : gb362 ≠ gb349)); clear BK337; clear BK343; clear BK349; clear HB; have BK337 := n0_; have BK343 := n1_; have BK349 := n2_; have HB := n3_; have BK362 := n4_; have GW362 := n5_; have GE362 := n6_; have NB337_362 := n7_; have NB362_337 := n8_; have NB343_362 := n9_; have NB362_343 := n10_; have NB349_362 := n11_; have NB362_349 := n12_; clear n0_ n1_ n2_ n3_ n4_ n5_ n6_ n7_ n8_ n9_ n10_ n11_ n12_; clear hb hbox hg; have hnb126 := NB362_337.out; have hnc126 := NB337_362.out; have hnb127 := NB362_343.out; have hnc127 := NB343_362.out; have hnb128 := NB362_349.out; have hnc128 := NB349_362.out; have hcz129_0 : w125.cell? ⟨gb362, 0, none⟩ = some (.int .i64 0) := (blk_cell BK362.out 0).trans rfl; have hcz129_1 : w125.cell? ⟨gb362, 1, none⟩ = some (.int .i64 0) := (blk_cell BK362.out 1).trans rfl; have hcz129_2 : w125.cell? ⟨gb362, 2, none⟩ = some (.int .i64 0) := (blk_cell BK362.out 2).trans rfl; have hcz129_3 : w125.cell? ⟨gb362, 3, none⟩ = some (.int .i64 0) := (blk_cell BK362.out 3).trans rfl; have hfz129_0 := blk_frozen BK362.out 0; have hfz129_1 := blk_frozen BK362.out 1; have hfz129_2 := blk_frozen BK362.out 2; have hfz129_3 := blk_frozen BK362.out 3) | ((with_reducible refine gate_callee (f := 23) rfl ?_); refine goesL_ (some 136) rfl rfl Try.func23 (by kernel_rfl) rfl #[.agg #[.int .i64 t357, .int .i64 t358, .int .i64 t359, .int .i64 t360], .int .i64 t361] rfl (q_6) ?_; (with_reducible refine (impl_SentBytes.calls t357 t358 t359 t360 t361 t363 t364 t365 t366 t367 _ A120.out).mono ?_); rintro e w130 ⟨rfl, hb⟩; refine ⟨_, rfl, ?_⟩; have n0_ := Aside0.mk (blk_below (g := gb337) (o := .cells #[.int .i64 t330, .int .i64 t331, .int .i64 t332, .int .i64 t333] 37 (0, 0)) (by (with_reducible repeat (first | refine blk_drewN ?_ _ | refine blk_drew ?_ | refine blk_alloc ?_ _)); refine blk_far ?_ NB337_362.out _; (with_reducible repeat (first | refine blk_drewN ?_ _ | refine blk_drew ?_ | refine blk_alloc ?_ _)); refine blk_far ?_ NB337_362.out _; (with_reducible repeat (first | refine blk_drewN ?_ _ | refine blk_drew ?_ | refine blk_alloc ?_ _)); refine blk_far ?_ NB337_362.out _; (with_reducible repeat (first | refine blk_drewN ?_ _ | refine blk_drew ?_ | refine blk_alloc ?_ _)); refine blk_far ?_ NB337_362.out _; (with_reducible repeat (first | refine blk_drewN ?_ _ | refine blk_drew ?_ | refine blk_alloc ?_ _)); exact BK337.out) hb); have n1_ := Aside0.mk (blk_below (g := gb343) (o := .cells #[.int .i64 t338, .int .i64 t339, .int .i64 t340, .int .i64 t341] 37 (0, 0)) (by (with_reducible repeat (first | refine blk_drewN ?_ _ | refine blk_drew ?_ | refine blk_alloc ?_ _)); refine blk_far ?_ NB343_362.out _; (with_reducible repeat (first | refine blk_drewN ?_ _ | refine blk_drew ?_ | refine blk_alloc ?_ _)); refine blk_far ?_ NB343_362.out _; (with_reducible repeat (first | refine blk_drewN ?_ _ | refine blk_drew ?_ | refine blk_alloc ?_ _)); refine blk_far ?_ NB343_362.out _; (with_reducible repeat (first | refine blk_drewN ?_ _ | refine blk_drew ?_ | refine blk_alloc ?_ _)); refine blk_far ?_ NB343_362.out _; (with_reducible repeat (first | refine blk_drewN ?_ _ | refine blk_drew ?_ | refine blk_alloc ?_ _)); exact BK343.out) hb); have n2_ := Aside0.mk (blk_below (g := gb349) (o := .cells #[.int .i64 t344, .int .i64 t345, .int .i64 t346, .int .i64 t347] 37 (0, 0)) (by (with_reducible repeat (first | refine blk_drewN ?_ _ | refine blk_drew ?_ | refine blk_alloc ?_ _)); refine blk_far ?_ NB349_362.out _; (with_reducible repeat (first | refine blk_drewN ?_ _ | refine blk_drew ?_ | refine blk_alloc ?_ _)); refine blk_far ?_ NB349_362.out _; (with_reducible repeat (first | refine blk_drewN ?_ _ | refine blk_drew ?_ | refine blk_alloc ?_ _)); refine blk_far ?_ NB349_362.out _; (with_reducible repeat (first | refine blk_drewN ?_ _ | refine blk_drew ?_ | refine blk_alloc ?_ _)); refine blk_far ?_ NB349_362.out _; (with_reducible repeat (first | refine blk_drewN ?_ _ | refine blk_drew ?_ | refine blk_alloc ?_ _)); exact BK349.out) hb); have n3_ := Aside0.mk (blk_below (g := gb362) (o := .cells #[.int .i64 t357, .int .i64 t358, .int .i64 t359, .int .i64 t360] 37 (0, 0)) (by (with_reducible repeat (first | refine blk_drewN ?_ _ | refine blk_drew ?_ | refine blk_alloc ?_ _)); refine blk_put (cs := #[.int .i64 t357, .int .i64 t358, .int .i64 t359, .int .i64 0]) ?_ 3 _ rfl; (with_reducible repeat (first | refine blk_drewN ?_ _ | refine blk_drew ?_ | refine blk_alloc ?_ _)); refine blk_put (cs := #[.int .i64 t357, .int .i64 t358, .int .i64 0, .int .i64 0]) ?_ 2 _ rfl; (with_reducible repeat (first | refine blk_drewN ?_ _ | refine blk_drew ?_ | refine blk_alloc ?_ _)); refine blk_put (cs := #[.int .i64 t357, .int .i64 0, .int .i64 0, .int .i64 0]) ?_ 1 _ rfl; (with_reducible repeat (first | refine blk_drewN ?_ _ | refine blk_drew ?_ | refine blk_alloc ?_ _)); refine blk_put (cs := #[.int .i64 0, .int .i64 0, .int .i64 0, .int .i64 0]) ?_ 0 _ rfl; (with_reducible repeat (first | refine blk_drewN ?_ _ | refine blk_drew ?_ | refine blk_alloc ?_ _)); exact BK362.out) hb); have n4_ := Aside0.mk (below_step (q_176) hb); clear BK337; clear BK343; clear BK349; clear BK362; clear HB; have BK337 := n0_; have BK343 := n1_; have BK349 := n2_; have BK362 := n3_; have HB := n4_; clear n0_ n1_ n2_ n3_ n4_; (try clear hb); (try clear hb2); (try clear hk); (try clear hi)) | ((with_reducible refine gate_dst (N := 18) rfl ?_); refine box_event ?hg (N := 18) ?hd (cs := #[.int .i64 0, .int .i64 0, .int .i64 0, .int .i64 0]) (t := 37) ?hr ?_; (case hd => rfl); (case hg => rfl); (case hr => first | (go_simp; done) | (go_simp; rfl)); intro gb368 hg w131 hbox hb; have n0_ := Aside0.mk (blk_below (g := gb337) (o := .cells #[.int .i64 t330, .int .i64 t331, .int .i64 t332, .int .i64 t333] 37 (0, 0)) (q_151) hb); have n1_ := Aside0.mk (blk_below (g := gb343) (o := .cells #[.int .i64 t338, .int .i64 t339, .int .i64 t340, .int .i64 t341] 37 (0, 0)) (q_156) hb); have n2_ := Aside0.mk (blk_below (g := gb349) (o := .cells #[.int .i64 t344, .int .i64 t345, .int .i64 t346, .int .i64 t347] 37 (0, 0)) (q_165) hb); have n3_ := Aside0.mk (blk_below (g := gb362) (o := .cells #[.int .i64 t357, .int .i64 t358, .int .i64 t359, .int .i64 t360] 37 (0, 0)) (q_177) hb); have n4_ := Aside0.mk (below_step (q_176) hb); have n5_ := Aside0.mk (hbox); have n6_ := Aside0.mk ((q_178 : w.heap.size ≤ gb368)); have n7_ := Aside0.mk ((q_178 : w.heap.size ≤ gb368)); have n8_ := Aside0.mk ((q_153 : gb337 ≠ gb368)); have n9_ := Aside0.mk ((q_154 : gb368 ≠ gb337)); have n10_ := Aside0.mk ((q_158 : gb343 ≠ gb368)); have n11_ := Aside0.mk ((q_159 : gb368 ≠ gb343)); have n12_ := Aside0.mk ((q_168 : gb349 ≠ gb368)); have n13_ := Aside0.mk ((q_169 : gb368 ≠ gb349)); have n14_ := Aside0.mk ((q_179 : gb362 ≠ gb368)); have n15_ := Aside0.mk ((q_180 : gb368 ≠ gb362)); clear BK337; clear BK343; clear BK349; clear BK362; clear HB; have BK337 := n0_; have BK343 := n1_; have BK349 := n2_; have BK362 := n3_; have HB := n4_; have BK368 := n5_; have GW368 := n6_; have GE368 := n7_; have NB337_368 := n8_; have NB368_337 := n9_; have NB343_368 := n10_; have NB368_343 := n11_; have NB349_368 := n12_; have NB368_349 := n13_; have NB362_368 := n14_; have NB368_362 := n15_; clear n0_ n1_ n2_ n3_ n4_ n5_ n6_ n7_ n8_ n9_ n10_ n11_ n12_ n13_ n14_ n15_; clear hb hbox hg; have hnb132 := NB368_337.out; have hnc132 := NB337_368.out; have hnb133 := NB368_343.out; have hnc133 := NB343_368.out; have hnb134 := NB368_349.out; have hnc134 := NB349_368.out; have hnb135 := NB368_362.out; have hnc135 := NB362_368.out; have hcz136_0 : w131.cell? ⟨gb368, 0, none⟩ = some (.int .i64 0) := (blk_cell BK368.out 0).trans rfl; have hcz136_1 : w131.cell? ⟨gb368, 1, none⟩ = some (.int .i64 0) := (blk_cell BK368.out 1).trans rfl; have hcz136_2 : w131.cell? ⟨gb368, 2, none⟩ = some (.int .i64 0) := (blk_cell BK368.out 2).trans rfl; have hcz136_3 : w131.cell? ⟨gb368, 3, none⟩ = some (.int .i64 0) := (blk_cell BK368.out 3).trans rfl; have hfz136_0 := blk_frozen BK368.out 0; have hfz136_1 := blk_frozen BK368.out 1; have hfz136_2 := blk_frozen BK368.out 2; have hfz136_3 := blk_frozen BK368.out 3; have hcz137_0 : w131.cell? ⟨gb362, 0, none⟩ = some (.int .i64 t357) := (blk_cell BK362.out 0).trans rfl; have hcz137_1 : w131.cell? ⟨gb362, 1, none⟩ = some (.int .i64 t358) := (blk_cell BK362.out 1).trans rfl; have hcz137_2 : w131.cell? ⟨gb362, 2, none⟩ = some (.int .i64 t359) := (blk_cell BK362.out 2).trans rfl; have hcz137_3 : w131.cell? ⟨gb362, 3, none⟩ = some (.int .i64 t360) := (blk_cell BK362.out 3).trans rfl; have hfz137_0 := blk_frozen BK362.out 0; have hfz137_1 := blk_frozen BK362.out 1; have hfz137_2 := blk_frozen BK362.out 2; have hfz137_3 := blk_frozen BK362.out 3) | ((with_reducible refine gate_callee (f := 24) rfl ?_); refine goesL_ (some 142) rfl rfl Try.func24 (by kernel_rfl) rfl #[.agg #[.int .i64 t357, .int .i64 t358, .int .i64 t359, .int .i64 t360], .int .i64 t361] rfl (q_6) ?_; (with_reducible refine (spec_SentBytes.calls t357 t358 t359 t360 t361 t369 t370 t371 t372 t373 _ A121.out).mono ?_); rintro e w138 ⟨rfl, hb⟩; refine ⟨_, rfl, ?_⟩; have n0_ := Aside0.mk (blk_below (g := gb337) (o := .cells #[.int .i64 t330, .int .i64 t331, .int .i64 t332, .int .i64 t333] 37 (0, 0)) (by (with_reducible repeat (first | refine blk_drewN ?_ _ | refine blk_drew ?_ | refine blk_alloc ?_ _)); refine blk_far ?_ NB337_368.out _; (with_reducible repeat (first | refine blk_drewN ?_ _ | refine blk_drew ?_ | refine blk_alloc ?_ _)); refine blk_far ?_ NB337_368.out _; (with_reducible repeat (first | refine blk_drewN ?_ _ | refine blk_drew ?_ | refine blk_alloc ?_ _)); refine blk_far ?_ NB337_368.out _; (with_reducible repeat (first | refine blk_drewN ?_ _ | refine blk_drew ?_ | refine blk_alloc ?_ _)); refine blk_far ?_ NB337_368.out _; (with_reducible repeat (first | refine blk_drewN ?_ _ | refine blk_drew ?_ | refine blk_alloc ?_ _)); exact BK337.out) hb); have n1_ := Aside0.mk (blk_below (g := gb343) (o := .cells #[.int .i64 t338, .int .i64 t339, .int .i64 t340, .int .i64 t341] 37 (0, 0)) (by (with_reducible repeat (first | refine blk_drewN ?_ _ | refine blk_drew ?_ | refine blk_alloc ?_ _)); refine blk_far ?_ NB343_368.out _; (with_reducible repeat (first | refine blk_drewN ?_ _ | refine blk_drew ?_ | refine blk_alloc ?_ _)); refine blk_far ?_ NB343_368.out _; (with_reducible repeat (first | refine blk_drewN ?_ _ | refine blk_drew ?_ | refine blk_alloc ?_ _)); refine blk_far ?_ NB343_368.out _; (with_reducible repeat (first | refine blk_drewN ?_ _ | refine blk_drew ?_ | refine blk_alloc ?_ _)); refine blk_far ?_ NB343_368.out _; (with_reducible repeat (first | refine blk_drewN ?_ _ | refine blk_drew ?_ | refine blk_alloc ?_ _)); exact BK343.out) hb); have n2_ := Aside0.mk (blk_below (g := gb349) (o := .cells #[.int .i64 t344, .int .i64 t345, .int .i64 t346, .int .i64 t347] 37 (0, 0)) (by (with_reducible repeat (first | refine blk_drewN ?_ _ | refine blk_drew ?_ | refine blk_alloc ?_ _)); refine blk_far ?_ NB349_368.out _; (with_reducible repeat (first | refine blk_drewN ?_ _ | refine blk_drew ?_ | refine blk_alloc ?_ _)); refine blk_far ?_ NB349_368.out _; (with_reducible repeat (first | refine blk_drewN ?_ _ | refine blk_drew ?_ | refine blk_alloc ?_ _)); refine blk_far ?_ NB349_368.out _; (with_reducible repeat (first | refine blk_drewN ?_ _ | refine blk_drew ?_ | refine blk_alloc ?_ _)); refine blk_far ?_ NB349_368.out _; (with_reducible repeat (first | refine blk_drewN ?_ _ | refine blk_drew ?_ | refine blk_alloc ?_ _)); exact BK349.out) hb); have n3_ := Aside0.mk (blk_below (g := gb362) (o := .cells #[.int .i64 t357, .int .i64 t358, .int .i64 t359, .int .i64 t360] 37 (0, 0)) (by (with_reducible repeat (first | refine blk_drewN ?_ _ | refine blk_drew ?_ | refine blk_alloc ?_ _)); refine blk_far ?_ NB362_368.out _; (with_reducible repeat (first | refine blk_drewN ?_ _ | refine blk_drew ?_ | refine blk_alloc ?_ _)); refine blk_far ?_ NB362_368.out _; (with_reducible repeat (first | refine blk_drewN ?_ _ | refine blk_drew ?_ | refine blk_alloc ?_ _)); refine blk_far ?_ NB362_368.out _; (with_reducible repeat (first | refine blk_drewN ?_ _ | refine blk_drew ?_ | refine blk_alloc ?_ _)); refine blk_far ?_ NB362_368.out _; (with_reducible repeat (first | refine blk_drewN ?_ _ | refine blk_drew ?_ | refine blk_alloc ?_ _)); exact BK362.out) hb); have n4_ := Aside0.mk (blk_below (g := gb368) (o := .cells #[.int .i64 t363, .int .i64 t364, .int .i64 t365, .int .i64 t366] 37 (0, 0)) (by (with_reducible repeat (first | refine blk_drewN ?_ _ | refine blk_drew ?_ | refine blk_alloc ?_ _)); refine blk_put (cs := #[.int .i64 t363, .int .i64 t364, .int .i64 t365, .int .i64 0]) ?_ 3 _ rfl; (with_reducible repeat (first | refine blk_drewN ?_ _ | refine blk_drew ?_ | refine blk_alloc ?_ _)); refine blk_put (cs := #[.int .i64 t363, .int .i64 t364, .int .i64 0, .int .i64 0]) ?_ 2 _ rfl; (with_reducible repeat (first | refine blk_drewN ?_ _ | refine blk_drew ?_ | refine blk_alloc ?_ _)); refine blk_put (cs := #[.int .i64 t363, .int .i64 0, .int .i64 0, .int .i64 0]) ?_ 1 _ rfl; (with_reducible repeat (first | refine blk_drewN ?_ _ | refine blk_drew ?_ | refine blk_alloc ?_ _)); refine blk_put (cs := #[.int .i64 0, .int .i64 0, .int .i64 0, .int .i64 0]) ?_ 0 _ rfl; (with_reducible repeat (first | refine blk_drewN ?_ _ | refine blk_drew ?_ | refine blk_alloc ?_ _)); exact BK368.out) hb); have n5_ := Aside0.mk (below_step (q_181) hb); clear BK337; clear BK343; clear BK349; clear BK362; clear BK368; clear HB; have BK337 := n0_; have BK343 := n1_; have BK349 := n2_; have BK362 := n3_; have BK368 := n4_; have HB := n5_; clear n0_ n1_ n2_ n3_ n4_ n5_; (try clear hb); (try clear hb2); (try clear hk); (try clear hi)) | ((with_reducible refine gate_dst (N := 20) rfl ?_); refine box_event ?hg (N := 20) ?hd (cs := #[.int .i64 0, .int .i64 0, .int .i64 0, .int .i64 0]) (t := 37) ?hr ?_; (case hd => rfl); (case hg => rfl); (case hr => first | (go_simp; done) | (go_simp; rfl)); intro gb374 hg w139 hbox hb; have n0_ := Aside0.mk (blk_below (g := gb337) (o := .cells #[.int .i64 t330, .int .i64 t331, .int .i64 t332, .int .i64 t333] 37 (0, 0)) (q_151) hb); have n1_ := Aside0.mk (blk_below (g := gb343) (o := .cells #[.int .i64 t338, .int .i64 t339, .int .i64 t340, .int .i64 t341] 37 (0, 0)) (q_156) hb); have n2_ := Aside0.mk (blk_below (g := gb349) (o := .cells #[.int .i64 t344, .int .i64 t345, .int .i64 t346, .int .i64 t347] 37 (0, 0)) (q_165) hb); have n3_ := Aside0.mk (blk_below (g := gb362) (o := .cells #[.int .i64 t357, .int .i64 t358, .int .i64 t359, .int .i64 t360] 37 (0, 0)) (q_177) hb); have n4_ := Aside0.mk (blk_below (g := gb368) (o := .cells #[.int .i64 t363, .int .i64 t364, .int .i64 t365, .int .i64 t366] 37 (0, 0)) (q_182) hb); have n5_ := Aside0.mk (below_step (q_181) hb); have n6_ := Aside0.mk (hbox); have n7_ := Aside0.mk ((q_183 : w.heap.size ≤ gb374)); have n8_ := Aside0.mk ((q_183 : w.heap.size ≤ gb374)); have n9_ := Aside0.mk ((q_153 : gb337 ≠ gb374)); have n10_ := Aside0.mk ((q_154 : gb374 ≠ gb337)); have n11_ := Aside0.mk ((q_158 : gb343 ≠ gb374)); have n12_ := Aside0.mk ((q_159 : gb374 ≠ gb343)); have n13_ := Aside0.mk ((q_168 : gb349 ≠ gb374)); have n14_ := Aside0.mk ((q_169 : gb374 ≠ gb349)); have n15_ := Aside0.mk ((q_179 : gb362 ≠ gb374)); have n16_ := Aside0.mk ((q_180 : gb374 ≠ gb362)); have n17_ := Aside0.mk ((q_184 : gb368 ≠ gb374)); have n18_ := Aside0.mk ((q_185 : gb374 ≠ gb368)); clear BK337; clear BK343; clear BK349; clear BK362; clear BK368; clear HB; have BK337 := n0_; have BK343 := n1_; have BK349 := n2_; have BK362 := n3_; have BK368 := n4_; have HB := n5_; have BK374 := n6_; have GW374 := n7_; have GE374 := n8_; have NB337_374 := n9_; have NB374_337 := n10_; have NB343_374 := n11_; have NB374_343 := n12_; have NB349_374 := n13_; have NB374_349 := n14_; have NB362_374 := n15_; have NB374_362 := n16_; have NB368_374 := n17_; have NB374_368 := n18_; clear n0_ n1_ n2_ n3_ n4_ n5_ n6_ n7_ n8_ n9_ n10_ n11_ n12_ n13_ n14_ n15_ n16_ n17_ n18_; clear hb hbox hg; have hnb140 := NB374_337.out; have hnc140 := NB337_374.out; have hnb141 := NB374_343.out; have hnc141 := NB343_374.out; have hnb142 := NB374_349.out; have hnc142 := NB349_374.out; have hnb143 := NB374_362.out; have hnc143 := NB362_374.out; have hnb144 := NB374_368.out; have hnc144 := NB368_374.out; have hcz145_0 : w139.cell? ⟨gb374, 0, none⟩ = some (.int .i64 0) := (blk_cell BK374.out 0).trans rfl; have hcz145_1 : w139.cell? ⟨gb374, 1, none⟩ = some (.int .i64 0) := (blk_cell BK374.out 1).trans rfl; have hcz145_2 : w139.cell? ⟨gb374, 2, none⟩ = some (.int .i64 0) := (blk_cell BK374.out 2).trans rfl; have hcz145_3 : w139.cell? ⟨gb374, 3, none⟩ = some (.int .i64 0) := (blk_cell BK374.out 3).trans rfl; have hfz145_0 := blk_frozen BK374.out 0; have hfz145_1 := blk_frozen BK374.out 1; have hfz145_2 := blk_frozen BK374.out 2; have hfz145_3 := blk_frozen BK374.out 3; have hcz146_0 : w139.cell? ⟨gb362, 0, none⟩ = some (.int .i64 t357) := (blk_cell BK362.out 0).trans rfl; have hcz146_1 : w139.cell? ⟨gb362, 1, none⟩ = some (.int .i64 t358) := (blk_cell BK362.out 1).trans rfl; have hcz146_2 : w139.cell? ⟨gb362, 2, none⟩ = some (.int .i64 t359) := (blk_cell BK362.out 2).trans rfl; have hcz146_3 : w139.cell? ⟨gb362, 3, none⟩ = some (.int .i64 t360) := (blk_cell BK362.out 3).trans rfl; have hfz146_0 := blk_frozen BK362.out 0; have hfz146_1 := blk_frozen BK362.out 1; have hfz146_2 := blk_frozen BK362.out 2; have hfz146_3 := blk_frozen BK362.out 3) | ((with_reducible refine gate_callee (f := 25) rfl ?_); refine goesL_ (some 147) rfl rfl Try.func25 (by kernel_rfl) rfl #[.agg #[.int .i64 t357, .int .i64 t358, .int .i64 t359, .int .i64 t360]] rfl (q_6) ?_; (with_reducible refine (impl_RoomIn.calls t357 t358 t359 t360 t375 t376 _ A122.out).mono ?_); rintro e w147 ⟨rfl, hb⟩; refine ⟨_, rfl, ?_⟩; have n0_ := Aside0.mk (blk_below (g := gb337) (o := .cells #[.int .i64 t330, .int .i64 t331, .int .i64 t332, .int .i64 t333] 37 (0, 0)) (by (with_reducible repeat (first | refine blk_drewN ?_ _ | refine blk_drew ?_ | refine blk_alloc ?_ _)); refine blk_far ?_ NB337_374.out _; (with_reducible repeat (first | refine blk_drewN ?_ _ | refine blk_drew ?_ | refine blk_alloc ?_ _)); refine blk_far ?_ NB337_374.out _; (with_reducible repeat (first | refine blk_drewN ?_ _ | refine blk_drew ?_ | refine blk_alloc ?_ _)); refine blk_far ?_ NB337_374.out _; (with_reducible repeat (first | refine blk_drewN ?_ _ | refine blk_drew ?_ | refine blk_alloc ?_ _)); refine blk_far ?_ NB337_374.out _; (with_reducible repeat (first | refine blk_drewN ?_ _ | refine blk_drew ?_ | refine blk_alloc ?_ _)); exact BK337.out) hb); have n1_ := Aside0.mk (blk_below (g := gb343) (o := .cells #[.int .i64 t338, .int .i64 t339, .int .i64 t340, .int .i64 t341] 37 (0, 0)) (by (with_reducible repeat (first | refine blk_drewN ?_ _ | refine blk_drew ?_ | refine blk_alloc ?_ _)); refine blk_far ?_ NB343_374.out _; (with_reducible repeat (first | refine blk_drewN ?_ _ | refine blk_drew ?_ | refine blk_alloc ?_ _)); refine blk_far ?_ NB343_374.out _; (with_reducible repeat (first | refine blk_drewN ?_ _ | refine blk_drew ?_ | refine blk_alloc ?_ _)); refine blk_far ?_ NB343_374.out _; (with_reducible repeat (first | refine blk_drewN ?_ _ | refine blk_drew ?_ | refine blk_alloc ?_ _)); refine blk_far ?_ NB343_374.out _; (with_reducible repeat (first | refine blk_drewN ?_ _ | refine blk_drew ?_ | refine blk_alloc ?_ _)); exact BK343.out) hb); have n2_ := Aside0.mk (blk_below (g := gb349) (o := .cells #[.int .i64 t344, .int .i64 t345, .int .i64 t346, .int .i64 t347] 37 (0, 0)) (by (with_reducible repeat (first | refine blk_drewN ?_ _ | refine blk_drew ?_ | refine blk_alloc ?_ _)); refine blk_far ?_ NB349_374.out _; (with_reducible repeat (first | refine blk_drewN ?_ _ | refine blk_drew ?_ | refine blk_alloc ?_ _)); refine blk_far ?_ NB349_374.out _; (with_reducible repeat (first | refine blk_drewN ?_ _ | refine blk_drew ?_ | refine blk_alloc ?_ _)); refine blk_far ?_ NB349_374.out _; (with_reducible repeat (first | refine blk_drewN ?_ _ | refine blk_drew ?_ | refine blk_alloc ?_ _)); refine blk_far ?_ NB349_374.out _; (with_reducible repeat (first | refine blk_drewN ?_ _ | refine blk_drew ?_ | refine blk_alloc ?_ _)); exact BK349.out) hb); have n3_ := Aside0.mk (blk_below (g := gb362) (o := .cells #[.int .i64 t357, .int .i64 t358, .int .i64 t359, .int .i64 t360] 37 (0, 0)) (by (with_reducible repeat (first | refine blk_drewN ?_ _ | refine blk_drew ?_ | refine blk_alloc ?_ _)); refine blk_far ?_ NB362_374.out _; (with_reducible repeat (first | refine blk_drewN ?_ _ | refine blk_drew ?_ | refine blk_alloc ?_ _)); refine blk_far ?_ NB362_374.out _; (with_reducible repeat (first | refine blk_drewN ?_ _ | refine blk_drew ?_ | refine blk_alloc ?_ _)); refine blk_far ?_ NB362_374.out _; (with_reducible repeat (first | refine blk_drewN ?_ _ | refine blk_drew ?_ | refine blk_alloc ?_ _)); refine blk_far ?_ NB362_374.out _; (with_reducible repeat (first | refine blk_drewN ?_ _ | refine blk_drew ?_ | refine blk_alloc ?_ _)); exact BK362.out) hb); have n4_ := Aside0.mk (blk_below (g := gb368) (o := .cells #[.int .i64 t363, .int .i64 t364, .int .i64 t365, .int .i64 t366] 37 (0, 0)) (by (with_reducible repeat (first | refine blk_drewN ?_ _ | refine blk_drew ?_ | refine blk_alloc ?_ _)); refine blk_far ?_ NB368_374.out _; (with_reducible repeat (first | refine blk_drewN ?_ _ | refine blk_drew ?_ | refine blk_alloc ?_ _)); refine blk_far ?_ NB368_374.out _; (with_reducible repeat (first | refine blk_drewN ?_ _ | refine blk_drew ?_ | refine blk_alloc ?_ _)); refine blk_far ?_ NB368_374.out _; (with_reducible repeat (first | refine blk_drewN ?_ _ | refine blk_drew ?_ | refine blk_alloc ?_ _)); refine blk_far ?_ NB368_374.out _; (with_reducible repeat (first | refine blk_drewN ?_ _ | refine blk_drew ?_ | refine blk_alloc ?_ _)); exact BK368.out) hb); have n5_ := Aside0.mk (blk_below (g := gb374) (o := .cells #[.int .i64 t369, .int .i64 t370, .int .i64 t371, .int .i64 t372] 37 (0, 0)) (by (with_reducible repeat (first | refine blk_drewN ?_ _ | refine blk_drew ?_ | refine blk_alloc ?_ _)); refine blk_put (cs := #[.int .i64 t369, .int .i64 t370, .int .i64 t371, .int .i64 0]) ?_ 3 _ rfl; (with_reducible repeat (first | refine blk_drewN ?_ _ | refine blk_drew ?_ | refine blk_alloc ?_ _)); refine blk_put (cs := #[.int .i64 t369, .int .i64 t370, .int .i64 0, .int .i64 0]) ?_ 2 _ rfl; (with_reducible repeat (first | refine blk_drewN ?_ _ | refine blk_drew ?_ | refine blk_alloc ?_ _)); refine blk_put (cs := #[.int .i64 t369, .int .i64 0, .int .i64 0, .int .i64 0]) ?_ 1 _ rfl; (with_reducible repeat (first | refine blk_drewN ?_ _ | refine blk_drew ?_ | refine blk_alloc ?_ _)); refine blk_put (cs := #[.int .i64 0, .int .i64 0, .int .i64 0, .int .i64 0]) ?_ 0 _ rfl; (with_reducible repeat (first | refine blk_drewN ?_ _ | refine blk_drew ?_ | refine blk_alloc ?_ _)); exact BK374.out) hb); have n6_ := Aside0.mk (below_step (q_186) hb); clear BK337; clear BK343; clear BK349; clear BK362; clear BK368; clear BK374; clear HB; have BK337 := n0_; have BK343 := n1_; have BK349 := n2_; have BK362 := n3_; have BK368 := n4_; have BK374 := n5_; have HB := n6_; clear n0_ n1_ n2_ n3_ n4_ n5_ n6_; (try clear hb); (try clear hb2); (try clear hk); (try clear hi)))
       (try simp only [Act.put, List.setIfInBounds_toArray, List.set_cons_zero, List.set_cons_succ])
       go_cut [173] (fun v173 wc => ∃ (kq : Nat) (x173_122 : Bool), v173 = .bool x173_122 ∧ Aside0 (laws_FnWindow.j5 kq x173_122 t357 t358 t359 t360 = some r) ∧ Aside0 (kq ≤ kj27) ∧ Aside0 (wc.heap[gb337]? = some (.cells #[.int .i64 t330, .int .i64 t331, .int .i64 t332, .int .i64 t333] 37 (0, 0))) ∧ Aside0 (wc.heap[gb343]? = some (.cells #[.int .i64 t338, .int .i64 t339, .int .i64 t340, .int .i64 t341] 37 (0, 0))) ∧ Aside0 (wc.heap[gb349]? = some (.cells #[.int .i64 t344, .int .i64 t345, .int .i64 t346, .int .i64 t347] 37 (0, 0))) ∧ Aside0 (wc.heap[gb362]? = some (.cells #[.int .i64 t357, .int .i64 t358, .int .i64 t359, .int .i64 t360] 37 (0, 0))) ∧ Aside0 (wc.heap[gb368]? = some (.cells #[.int .i64 t363, .int .i64 t364, .int .i64 t365, .int .i64 t366] 37 (0, 0))) ∧ Aside0 (wc.heap[gb374]? = some (.cells #[.int .i64 t369, .int .i64 t370, .int .i64 t371, .int .i64 t372] 37 (0, 0))) ∧ Aside0 (Below w.heap.size w wc))
       case first =>
        have H := HC123.out
        clear HC123
        by_cases c148 : (t367 != t373) = true
        ·as_aux_lemma =>
          rw [if_pos c148] at H
          have c148b0 : (t367 != t373) = true := c148
          (try (have c148b1 : decide (t367 = t373) = false := by simpa using c148))
          (try (have c148b2 : (t367 == t373) = false := by simpa using c148))
          (try (have c148b3 : ¬ (t367 = t373) := by simpa using c148))
          clear c148
          (first | rw [c148b0] | (simp only [i64_w, i32_w]; rw [c148b0]) | skip)
          have H' := Aside0.mk H
          clear H
          go_wp2
          go_meet
          case rel => exact ⟨_, (true), (q_9), H', ⟨q_187⟩, ⟨q_151⟩, ⟨q_156⟩, ⟨q_165⟩, ⟨q_177⟩, ⟨q_182⟩, ⟨q_188⟩, ⟨q_186⟩⟩
        ·rw [if_neg c148] at H
         have c148b0 : (t367 != t373) = false := by simpa using c148
         (try (have c148b1 : decide (t367 = t373) = true := by simpa using c148))
         (try (have c148b2 : (t367 == t373) = true := by simpa using c148))
         clear c148
         (first | rw [c148b0] | (simp only [i64_w, i32_w]; rw [c148b0]) | skip)
         by_cases c149 : t367 = true
         ·subst c149
          have H1 : (if t376 = true then (if t361 > t375 then (laws_FnWindow.j5 kj27 true t357 t358 t359 t360) else (laws_FnWindow.j5 kj27 (t366 != (wrap64 (t360 + t361))) t357 t358 t359 t360)) else (laws_FnWindow.j5 kj27 true t357 t358 t359 t360)) = some r := by rw [if_pos rfl] at H; exact H
          clear H
          have H := H1
          clear H1
          by_cases c150 : t376 = true
          ·subst c150
           have H1 : (if t361 > t375 then (laws_FnWindow.j5 kj27 true t357 t358 t359 t360) else (laws_FnWindow.j5 kj27 (t366 != (wrap64 (t360 + t361))) t357 t358 t359 t360)) = some r := by rw [if_pos rfl] at H; exact H
           clear H
           have H := H1
           clear H1
           by_cases c151 : t361 > t375
           ·as_aux_lemma =>
             rw [if_pos c151] at H
             have c151b0 : decide (t375 < t361) = true := decide_eq_true c151
             clear c151
             have H' := Aside0.mk H
             clear H
             go_wp2
             go_meet
             case rel => exact ⟨_, (true), (q_9), H', ⟨q_187⟩, ⟨q_151⟩, ⟨q_156⟩, ⟨q_165⟩, ⟨q_177⟩, ⟨q_182⟩, ⟨q_188⟩, ⟨q_186⟩⟩
           ·as_aux_lemma =>
             rw [if_neg c151] at H
             have c151b0 : decide (t375 < t361) = false := decide_eq_false c151
             clear c151
             have H' := Aside0.mk H
             clear H
             have hnb152 := NB368_337.out
             have hnc152 := NB337_368.out
             have hnb153 := NB368_343.out
             have hnc153 := NB343_368.out
             have hnb154 := NB368_349.out
             have hnc154 := NB349_368.out
             have hnb155 := NB368_362.out
             have hnc155 := NB362_368.out
             have hnb156 := NB368_374.out
             have hnc156 := NB374_368.out
             have hcz157_0 : w147.cell? ⟨gb368, 0, none⟩ = some (.int .i64 t363) := (blk_cell BK368.out 0).trans rfl
             have hcz157_1 : w147.cell? ⟨gb368, 1, none⟩ = some (.int .i64 t364) := (blk_cell BK368.out 1).trans rfl
             have hcz157_2 : w147.cell? ⟨gb368, 2, none⟩ = some (.int .i64 t365) := (blk_cell BK368.out 2).trans rfl
             have hcz157_3 : w147.cell? ⟨gb368, 3, none⟩ = some (.int .i64 t366) := (blk_cell BK368.out 3).trans rfl
             have hfz157_0 := blk_frozen BK368.out 0
             have hfz157_1 := blk_frozen BK368.out 1
             have hfz157_2 := blk_frozen BK368.out 2
             have hfz157_3 := blk_frozen BK368.out 3
             have hnb158 := NB362_337.out
             have hnc158 := NB337_362.out
             have hnb159 := NB362_343.out
             have hnc159 := NB343_362.out
             have hnb160 := NB362_349.out
             have hnc160 := NB349_362.out
             have hnb161 := NB362_374.out
             have hnc161 := NB374_362.out
             have hcz162_0 : w147.cell? ⟨gb362, 0, none⟩ = some (.int .i64 t357) := (blk_cell BK362.out 0).trans rfl
             have hcz162_1 : w147.cell? ⟨gb362, 1, none⟩ = some (.int .i64 t358) := (blk_cell BK362.out 1).trans rfl
             have hcz162_2 : w147.cell? ⟨gb362, 2, none⟩ = some (.int .i64 t359) := (blk_cell BK362.out 2).trans rfl
             have hcz162_3 : w147.cell? ⟨gb362, 3, none⟩ = some (.int .i64 t360) := (blk_cell BK362.out 3).trans rfl
             have hfz162_0 := blk_frozen BK362.out 0
             have hfz162_1 := blk_frozen BK362.out 1
             have hfz162_2 := blk_frozen BK362.out 2
             have hfz162_3 := blk_frozen BK362.out 3
             go_wp2
             go_meet
             case rel => exact ⟨_, ((t366 != (wrap64 (t360 + t361)))), (q_9), H', ⟨q_187⟩, ⟨q_151⟩, ⟨q_156⟩, ⟨q_165⟩, ⟨q_177⟩, ⟨q_182⟩, ⟨q_188⟩, ⟨q_186⟩⟩
          ·as_aux_lemma =>
            replace c150 := Bool.eq_false_iff.mpr c150
            subst c150
            have H1 : (laws_FnWindow.j5 kj27 true t357 t358 t359 t360) = some r := by rw [if_neg (show ¬ (false = true) by decide)] at H; exact H
            clear H
            have H := H1
            clear H1
            have H' := Aside0.mk H
            clear H
            go_wp2
            go_meet
            case rel => exact ⟨_, (true), (q_9), H', ⟨q_187⟩, ⟨q_151⟩, ⟨q_156⟩, ⟨q_165⟩, ⟨q_177⟩, ⟨q_182⟩, ⟨q_188⟩, ⟨q_186⟩⟩
         ·as_aux_lemma =>
           replace c149 := Bool.eq_false_iff.mpr c149
           subst c149
           have H1 : (laws_FnWindow.j5 kj27 false t357 t358 t359 t360) = some r := by rw [if_neg (show ¬ (false = true) by decide)] at H; exact H
           clear H
           have H := H1
           clear H1
           have H' := Aside0.mk H
           clear H
           go_wp2
           go_meet
           case rel => exact ⟨_, (false), (q_9), H', ⟨q_187⟩, ⟨q_151⟩, ⟨q_156⟩, ⟨q_165⟩, ⟨q_177⟩, ⟨q_182⟩, ⟨q_188⟩, ⟨q_186⟩⟩
       case rest =>
        clear HC123
        try clear c1; try clear c2; try clear p2; try clear c3; try clear c3b0; try clear c4; try clear c5; try clear c6; try clear p6; try clear c7; try clear c8; try clear c9; try clear c10; try clear c11; try clear c12; try clear c13; try clear c14; try clear c15; try clear c16; try clear c18; try clear c19; try clear c20; try clear c21; try clear c21b0; try clear c21b1; try clear c21b2; try clear c22; try clear c23; try clear c24; try clear c25; try clear c27; try clear c29; try clear c31; try clear c32; try clear c34; try clear c34b0; try clear c37; try clear c38; try clear c38b0; try clear c38b1; try clear c39; try clear c39b0; try clear c40; try clear c40b0; try clear c40b1; try clear c41; try clear c41b0; try clear c42; try clear c43; try clear c47; try clear c49; try clear c50; try clear c54; try clear c56; try clear c57; try clear c61; try clear c63; try clear c63b0; try clear c64; try clear p64; try clear c65; try clear c69; try clear c71; try clear c72; try clear c76; try clear c78; try clear c79; try clear c83; try clear c85; try clear c86; try clear c89; try clear c92; try clear c93; try clear c97; try clear c98; try clear c99; try clear c101; try clear c101b0; try clear c102; try clear c103; try clear c104; try clear c105; try clear c107; try clear c108; try clear c110; try clear c111; try clear c112; try clear c114; try clear c115; try clear c116; try clear c118; try clear c126; try clear c127; try clear c128; try clear c132; try clear c133; try clear c134; try clear c135; try clear c140; try clear c141; try clear c142; try clear c143; try clear c144; try clear c148; try clear c148b0; try clear c148b1; try clear c148b2; try clear c149; try clear c150; try clear c151; try clear c151b0; try clear c152; try clear c153; try clear c154; try clear c155; try clear c156; try clear c158; try clear c159; try clear c160; try clear c161; try clear hcz100_0; try clear hcz100_1; try clear hcz100_2; try clear hcz100_3; try clear hcz106_0; try clear hcz106_1; try clear hcz106_2; try clear hcz106_3; try clear hcz109_0; try clear hcz109_1; try clear hcz109_2; try clear hcz109_3; try clear hcz10_0; try clear hcz10_1; try clear hcz10_2; try clear hcz10_3; try clear hcz113_0; try clear hcz113_1; try clear hcz113_2; try clear hcz113_3; try clear hcz117_0; try clear hcz117_1; try clear hcz117_2; try clear hcz117_3; try clear hcz129_0; try clear hcz129_1; try clear hcz129_2; try clear hcz129_3; try clear hcz136_0; try clear hcz136_1; try clear hcz136_2; try clear hcz136_3; try clear hcz137_0; try clear hcz137_1; try clear hcz137_2; try clear hcz137_3; try clear hcz145_0; try clear hcz145_1; try clear hcz145_2; try clear hcz145_3; try clear hcz146_0; try clear hcz146_1; try clear hcz146_2; try clear hcz146_3; try clear hcz14_0; try clear hcz14_1; try clear hcz14_2; try clear hcz14_3; try clear hcz157_0; try clear hcz157_1; try clear hcz157_2; try clear hcz157_3; try clear hcz15_0; try clear hcz15_1; try clear hcz15_2; try clear hcz15_3; try clear hcz162_0; try clear hcz162_1; try clear hcz162_2; try clear hcz162_3; try clear hcz20_0; try clear hcz20_1; try clear hcz20_2; try clear hcz20_3; try clear hcz24_0; try clear hcz24_1; try clear hcz24_2; try clear hcz24_3; try clear hcz26_0; try clear hcz26_1; try clear hcz26_2; try clear hcz26_3; try clear hcz33_0; try clear hcz33_1; try clear hcz33_2; try clear hcz33_3; try clear hcz44_0; try clear hcz44_1; try clear hcz44_2; try clear hcz44_3; try clear hcz46_0; try clear hcz46_1; try clear hcz46_2; try clear hcz46_3; try clear hcz48_0; try clear hcz48_1; try clear hcz48_2; try clear hcz48_3; try clear hcz51_0; try clear hcz51_1; try clear hcz51_2; try clear hcz51_3; try clear hcz53_0; try clear hcz53_1; try clear hcz53_2; try clear hcz53_3; try clear hcz55_0; try clear hcz55_1; try clear hcz55_2; try clear hcz55_3; try clear hcz58_0; try clear hcz58_1; try clear hcz58_2; try clear hcz58_3; try clear hcz60_0; try clear hcz60_1; try clear hcz60_2; try clear hcz60_3; try clear hcz62_0; try clear hcz62_1; try clear hcz62_2; try clear hcz62_3; try clear hcz66_0; try clear hcz66_1; try clear hcz66_2; try clear hcz66_3; try clear hcz68_0; try clear hcz68_1; try clear hcz68_2; try clear hcz68_3; try clear hcz70_0; try clear hcz70_1; try clear hcz70_2; try clear hcz70_3; try clear hcz73_0; try clear hcz73_1; try clear hcz73_2; try clear hcz73_3; try clear hcz75_0; try clear hcz75_1; try clear hcz75_2; try clear hcz75_3; try clear hcz77_0; try clear hcz77_1; try clear hcz77_2; try clear hcz77_3; try clear hcz80_0; try clear hcz80_1; try clear hcz80_2; try clear hcz80_3; try clear hcz82_0; try clear hcz82_1; try clear hcz82_2; try clear hcz82_3; try clear hcz84_0; try clear hcz84_1; try clear hcz84_2; try clear hcz84_3; try clear hcz87_0; try clear hcz87_1; try clear hcz87_2; try clear hcz87_3; try clear hcz94_0; try clear hcz94_1; try clear hcz94_2; try clear hcz94_3; try clear hfz100_0; try clear hfz100_1; try clear hfz100_2; try clear hfz100_3; try clear hfz106_0; try clear hfz106_1; try clear hfz106_2; try clear hfz106_3; try clear hfz109_0; try clear hfz109_1; try clear hfz109_2; try clear hfz109_3; try clear hfz10_0; try clear hfz10_1; try clear hfz10_2; try clear hfz10_3; try clear hfz113_0; try clear hfz113_1; try clear hfz113_2; try clear hfz113_3; try clear hfz117_0; try clear hfz117_1; try clear hfz117_2; try clear hfz117_3; try clear hfz129_0; try clear hfz129_1; try clear hfz129_2; try clear hfz129_3; try clear hfz136_0; try clear hfz136_1; try clear hfz136_2; try clear hfz136_3; try clear hfz137_0; try clear hfz137_1; try clear hfz137_2; try clear hfz137_3; try clear hfz145_0; try clear hfz145_1; try clear hfz145_2; try clear hfz145_3; try clear hfz146_0; try clear hfz146_1; try clear hfz146_2; try clear hfz146_3; try clear hfz14_0; try clear hfz14_1; try clear hfz14_2; try clear hfz14_3; try clear hfz157_0; try clear hfz157_1; try clear hfz157_2; try clear hfz157_3; try clear hfz15_0; try clear hfz15_1; try clear hfz15_2; try clear hfz15_3; try clear hfz162_0; try clear hfz162_1; try clear hfz162_2; try clear hfz162_3; try clear hfz20_0; try clear hfz20_1; try clear hfz20_2; try clear hfz20_3; try clear hfz24_0; try clear hfz24_1; try clear hfz24_2; try clear hfz24_3; try clear hfz26_0; try clear hfz26_1; try clear hfz26_2; try clear hfz26_3; try clear hfz33_0; try clear hfz33_1; try clear hfz33_2; try clear hfz33_3; try clear hfz44_0; try clear hfz44_1; try clear hfz44_2; try clear hfz44_3; try clear hfz46_0; try clear hfz46_1; try clear hfz46_2; try clear hfz46_3; try clear hfz48_0; try clear hfz48_1; try clear hfz48_2; try clear hfz48_3; try clear hfz51_0; try clear hfz51_1; try clear hfz51_2; try clear hfz51_3; try clear hfz53_0; try clear hfz53_1; try clear hfz53_2; try clear hfz53_3; try clear hfz55_0; try clear hfz55_1; try clear hfz55_2; try clear hfz55_3; try clear hfz58_0; try clear hfz58_1; try clear hfz58_2; try clear hfz58_3; try clear hfz60_0; try clear hfz60_1; try clear hfz60_2; try clear hfz60_3; try clear hfz62_0; try clear hfz62_1; try clear hfz62_2; try clear hfz62_3; try clear hfz66_0; try clear hfz66_1; try clear hfz66_2; try clear hfz66_3; try clear hfz68_0; try clear hfz68_1; try clear hfz68_2; try clear hfz68_3; try clear hfz70_0; try clear hfz70_1; try clear hfz70_2; try clear hfz70_3; try clear hfz73_0; try clear hfz73_1; try clear hfz73_2; try clear hfz73_3; try clear hfz75_0; try clear hfz75_1; try clear hfz75_2; try clear hfz75_3; try clear hfz77_0; try clear hfz77_1; try clear hfz77_2; try clear hfz77_3; try clear hfz80_0; try clear hfz80_1; try clear hfz80_2; try clear hfz80_3; try clear hfz82_0; try clear hfz82_1; try clear hfz82_2; try clear hfz82_3; try clear hfz84_0; try clear hfz84_1; try clear hfz84_2; try clear hfz84_3; try clear hfz87_0; try clear hfz87_1; try clear hfz87_2; try clear hfz87_3; try clear hfz94_0; try clear hfz94_1; try clear hfz94_2; try clear hfz94_3; try clear p2; try clear p6; try clear p64
        obtain ⟨kq, x173_122, rfl, HA, HJ122, BK337, BK343, BK349, BK362, BK368, BK374, HB⟩ := hcut
        cases kq with
        | zero => exact absurd HA.out (by simp [laws_FnWindow.j5])
        | succ kj122 =>
         have H := HA.out
         clear HA
         simp only [laws_FnWindow.j5] at H
         by_cases c163 : x173_122 = true
         ·as_aux_lemma =>
           subst c163
           have H1 : (some false) = some r := by rw [if_pos rfl] at H; exact H
           clear H
           have H := H1
           clear H1
           obtain rfl := Option.some.inj H
           go_wp2
           go_ret
           exact ⟨q_2, q_186⟩
         ·replace c163 := Bool.eq_false_iff.mpr c163
          subst c163
          have H1 : ((impl_StalledWindow.f t357 t358 t359 t360).bind fun bt377 => (if bt377.2.2.2.2 = true then (some (bt377.1 == 2400)) else (some true))) = some r := by rw [if_neg (show ¬ (false = true) by decide)] at H; exact H
          clear H
          have H := H1
          clear H1
          replace H := Option.bind_eq_some_iff.mp H
          obtain ⟨⟨t377, t378, t379, t380, t381⟩, A1640, H⟩ := H
          replace H : (if t381 = true then (some (t377 == 2400)) else (some true)) = some r := H
          have A164 := Aside0.mk A1640
          clear A1640
          by_cases c165 : t381 = true
          ·as_aux_lemma =>
            subst c165
            have H1 : (some (t377 == 2400)) = some r := by rw [if_pos rfl] at H; exact H
            clear H
            have H := H1
            clear H1
            obtain rfl := Option.some.inj H
            have hnb166 := NB362_337.out
            have hnc166 := NB337_362.out
            have hnb167 := NB362_343.out
            have hnc167 := NB343_362.out
            have hnb168 := NB362_349.out
            have hnc168 := NB349_362.out
            have hnb169 := NB362_368.out
            have hnc169 := NB368_362.out
            have hnb170 := NB362_374.out
            have hnc170 := NB374_362.out
            have hcz171_0 : wc.cell? ⟨gb362, 0, none⟩ = some (.int .i64 t357) := (blk_cell BK362.out 0).trans rfl
            have hcz171_1 : wc.cell? ⟨gb362, 1, none⟩ = some (.int .i64 t358) := (blk_cell BK362.out 1).trans rfl
            have hcz171_2 : wc.cell? ⟨gb362, 2, none⟩ = some (.int .i64 t359) := (blk_cell BK362.out 2).trans rfl
            have hcz171_3 : wc.cell? ⟨gb362, 3, none⟩ = some (.int .i64 t360) := (blk_cell BK362.out 3).trans rfl
            have hfz171_0 := blk_frozen BK362.out 0
            have hfz171_1 := blk_frozen BK362.out 1
            have hfz171_2 := blk_frozen BK362.out 2
            have hfz171_3 := blk_frozen BK362.out 3
            go_wp2_with (first | ((with_reducible refine gate_callee (f := 26) rfl ?_); refine goesL_ (some 176) rfl rfl Try.func26 (by kernel_rfl) rfl #[.agg #[.int .i64 t357, .int .i64 t358, .int .i64 t359, .int .i64 t360]] rfl (q_6) ?_; (with_reducible refine (impl_StalledWindow.calls t357 t358 t359 t360 t377 t378 t379 t380 true _ A164.out).mono ?_); rintro e w172 ⟨rfl, hb⟩; refine ⟨_, rfl, ?_⟩; have n0_ := Aside0.mk (blk_below (g := gb337) (o := .cells #[.int .i64 t330, .int .i64 t331, .int .i64 t332, .int .i64 t333] 37 (0, 0)) (q_151) hb); have n1_ := Aside0.mk (blk_below (g := gb343) (o := .cells #[.int .i64 t338, .int .i64 t339, .int .i64 t340, .int .i64 t341] 37 (0, 0)) (q_156) hb); have n2_ := Aside0.mk (blk_below (g := gb349) (o := .cells #[.int .i64 t344, .int .i64 t345, .int .i64 t346, .int .i64 t347] 37 (0, 0)) (q_165) hb); have n3_ := Aside0.mk (blk_below (g := gb362) (o := .cells #[.int .i64 t357, .int .i64 t358, .int .i64 t359, .int .i64 t360] 37 (0, 0)) (q_177) hb); have n4_ := Aside0.mk (blk_below (g := gb368) (o := .cells #[.int .i64 t363, .int .i64 t364, .int .i64 t365, .int .i64 t366] 37 (0, 0)) (q_182) hb); have n5_ := Aside0.mk (blk_below (g := gb374) (o := .cells #[.int .i64 t369, .int .i64 t370, .int .i64 t371, .int .i64 t372] 37 (0, 0)) (q_188) hb); have n6_ := Aside0.mk (below_step (q_186) hb); clear BK337; clear BK343; clear BK349; clear BK362; clear BK368; clear BK374; clear HB; have BK337 := n0_; have BK343 := n1_; have BK349 := n2_; have BK362 := n3_; have BK368 := n4_; have BK374 := n5_; have HB := n6_; clear n0_ n1_ n2_ n3_ n4_ n5_ n6_; (try clear hb); (try clear hb2); (try clear hk); (try clear hi)) | ((with_reducible refine gate_dst (N := 24) rfl ?_); refine box_event ?hg (N := 24) ?hd (cs := #[.int .i64 0, .int .i64 0, .int .i64 0, .int .i64 0]) (t := 37) ?hr ?_; (case hd => rfl); (case hg => rfl); (case hr => first | (go_simp; done) | (go_simp; rfl)); intro gb382 hg w173 hbox hb; have n0_ := Aside0.mk (blk_below (g := gb337) (o := .cells #[.int .i64 t330, .int .i64 t331, .int .i64 t332, .int .i64 t333] 37 (0, 0)) (q_151) hb); have n1_ := Aside0.mk (blk_below (g := gb343) (o := .cells #[.int .i64 t338, .int .i64 t339, .int .i64 t340, .int .i64 t341] 37 (0, 0)) (q_156) hb); have n2_ := Aside0.mk (blk_below (g := gb349) (o := .cells #[.int .i64 t344, .int .i64 t345, .int .i64 t346, .int .i64 t347] 37 (0, 0)) (q_165) hb); have n3_ := Aside0.mk (blk_below (g := gb362) (o := .cells #[.int .i64 t357, .int .i64 t358, .int .i64 t359, .int .i64 t360] 37 (0, 0)) (q_177) hb); have n4_ := Aside0.mk (blk_below (g := gb368) (o := .cells #[.int .i64 t363, .int .i64 t364, .int .i64 t365, .int .i64 t366] 37 (0, 0)) (q_182) hb); have n5_ := Aside0.mk (blk_below (g := gb374) (o := .cells #[.int .i64 t369, .int .i64 t370, .int .i64 t371, .int .i64 t372] 37 (0, 0)) (q_188) hb); have n6_ := Aside0.mk (below_step (q_186) hb); have n7_ := Aside0.mk (hbox); have n8_ := Aside0.mk ((q_189 : w.heap.size ≤ gb382)); have n9_ := Aside0.mk ((q_189 : w.heap.size ≤ gb382)); have n10_ := Aside0.mk ((q_153 : gb337 ≠ gb382)); have n11_ := Aside0.mk ((q_154 : gb382 ≠ gb337)); have n12_ := Aside0.mk ((q_158 : gb343 ≠ gb382)); have n13_ := Aside0.mk ((q_159 : gb382 ≠ gb343)); have n14_ := Aside0.mk ((q_168 : gb349 ≠ gb382)); have n15_ := Aside0.mk ((q_169 : gb382 ≠ gb349)); have n16_ := Aside0.mk ((q_179 : gb362 ≠ gb382)); have n17_ := Aside0.mk ((q_180 : gb382 ≠ gb362)); have n18_ := Aside0.mk ((q_184 : gb368 ≠ gb382)); have n19_ := Aside0.mk ((q_185 : gb382 ≠ gb368)); have n20_ := Aside0.mk ((q_190 : gb374 ≠ gb382)); have n21_ := Aside0.mk ((q_191 : gb382 ≠ gb374)); clear BK337; clear BK343; clear BK349; clear BK362; clear BK368; clear BK374; clear HB; have BK337 := n0_; have BK343 := n1_; have BK349 := n2_; have BK362 := n3_; have BK368 := n4_; have BK374 := n5_; have HB := n6_; have BK382 := n7_; have GW382 := n8_; have GE382 := n9_; have NB337_382 := n10_; have NB382_337 := n11_; have NB343_382 := n12_; have NB382_343 := n13_; have NB349_382 := n14_; have NB382_349 := n15_; have NB362_382 := n16_; have NB382_362 := n17_; have NB368_382 := n18_; have NB382_368 := n19_; have NB374_382 := n20_; have NB382_374 := n21_; clear n0_ n1_ n2_ n3_ n4_ n5_ n6_ n7_ n8_ n9_ n10_ n11_ n12_ n13_ n14_ n15_ n16_ n17_ n18_ n19_ n20_ n21_; clear hb hbox hg; have hnb174 := NB382_337.out; have hnc174 := NB337_382.out; have hnb175 := NB382_343.out; have hnc175 := NB343_382.out; have hnb176 := NB382_349.out; have hnc176 := NB349_382.out; have hnb177 := NB382_362.out; have hnc177 := NB362_382.out; have hnb178 := NB382_368.out; have hnc178 := NB368_382.out; have hnb179 := NB382_374.out; have hnc179 := NB374_382.out; have hcz180_0 : w173.cell? ⟨gb382, 0, none⟩ = some (.int .i64 0) := (blk_cell BK382.out 0).trans rfl; have hcz180_1 : w173.cell? ⟨gb382, 1, none⟩ = some (.int .i64 0) := (blk_cell BK382.out 1).trans rfl; have hcz180_2 : w173.cell? ⟨gb382, 2, none⟩ = some (.int .i64 0) := (blk_cell BK382.out 2).trans rfl; have hcz180_3 : w173.cell? ⟨gb382, 3, none⟩ = some (.int .i64 0) := (blk_cell BK382.out 3).trans rfl; have hfz180_0 := blk_frozen BK382.out 0; have hfz180_1 := blk_frozen BK382.out 1; have hfz180_2 := blk_frozen BK382.out 2; have hfz180_3 := blk_frozen BK382.out 3))
            go_ret
            exact ⟨q_2, q_192⟩
          ·as_aux_lemma =>
            replace c165 := Bool.eq_false_iff.mpr c165
            subst c165
            have H1 : (some true) = some r := by rw [if_neg (show ¬ (false = true) by decide)] at H; exact H
            clear H
            have H := H1
            clear H1
            obtain rfl := Option.some.inj H
            have hnb181 := NB362_337.out
            have hnc181 := NB337_362.out
            have hnb182 := NB362_343.out
            have hnc182 := NB343_362.out
            have hnb183 := NB362_349.out
            have hnc183 := NB349_362.out
            have hnb184 := NB362_368.out
            have hnc184 := NB368_362.out
            have hnb185 := NB362_374.out
            have hnc185 := NB374_362.out
            have hcz186_0 : wc.cell? ⟨gb362, 0, none⟩ = some (.int .i64 t357) := (blk_cell BK362.out 0).trans rfl
            have hcz186_1 : wc.cell? ⟨gb362, 1, none⟩ = some (.int .i64 t358) := (blk_cell BK362.out 1).trans rfl
            have hcz186_2 : wc.cell? ⟨gb362, 2, none⟩ = some (.int .i64 t359) := (blk_cell BK362.out 2).trans rfl
            have hcz186_3 : wc.cell? ⟨gb362, 3, none⟩ = some (.int .i64 t360) := (blk_cell BK362.out 3).trans rfl
            have hfz186_0 := blk_frozen BK362.out 0
            have hfz186_1 := blk_frozen BK362.out 1
            have hfz186_2 := blk_frozen BK362.out 2
            have hfz186_3 := blk_frozen BK362.out 3
            go_wp2_with (first | ((with_reducible refine gate_callee (f := 26) rfl ?_); refine goesL_ (some 176) rfl rfl Try.func26 (by kernel_rfl) rfl #[.agg #[.int .i64 t357, .int .i64 t358, .int .i64 t359, .int .i64 t360]] rfl (q_6) ?_; (with_reducible refine (impl_StalledWindow.calls t357 t358 t359 t360 t377 t378 t379 t380 false _ A164.out).mono ?_); rintro e w187 ⟨rfl, hb⟩; refine ⟨_, rfl, ?_⟩; have n0_ := Aside0.mk (blk_below (g := gb337) (o := .cells #[.int .i64 t330, .int .i64 t331, .int .i64 t332, .int .i64 t333] 37 (0, 0)) (q_151) hb); have n1_ := Aside0.mk (blk_below (g := gb343) (o := .cells #[.int .i64 t338, .int .i64 t339, .int .i64 t340, .int .i64 t341] 37 (0, 0)) (q_156) hb); have n2_ := Aside0.mk (blk_below (g := gb349) (o := .cells #[.int .i64 t344, .int .i64 t345, .int .i64 t346, .int .i64 t347] 37 (0, 0)) (q_165) hb); have n3_ := Aside0.mk (blk_below (g := gb362) (o := .cells #[.int .i64 t357, .int .i64 t358, .int .i64 t359, .int .i64 t360] 37 (0, 0)) (q_177) hb); have n4_ := Aside0.mk (blk_below (g := gb368) (o := .cells #[.int .i64 t363, .int .i64 t364, .int .i64 t365, .int .i64 t366] 37 (0, 0)) (q_182) hb); have n5_ := Aside0.mk (blk_below (g := gb374) (o := .cells #[.int .i64 t369, .int .i64 t370, .int .i64 t371, .int .i64 t372] 37 (0, 0)) (q_188) hb); have n6_ := Aside0.mk (below_step (q_186) hb); clear BK337; clear BK343; clear BK349; clear BK362; clear BK368; clear BK374; clear HB; have BK337 := n0_; have BK343 := n1_; have BK349 := n2_; have BK362 := n3_; have BK368 := n4_; have BK374 := n5_; have HB := n6_; clear n0_ n1_ n2_ n3_ n4_ n5_ n6_; (try clear hb); (try clear hb2); (try clear hk); (try clear hi)) | ((with_reducible refine gate_dst (N := 24) rfl ?_); refine box_event ?hg (N := 24) ?hd (cs := #[.int .i64 0, .int .i64 0, .int .i64 0, .int .i64 0]) (t := 37) ?hr ?_; (case hd => rfl); (case hg => rfl); (case hr => first | (go_simp; done) | (go_simp; rfl)); intro gb382 hg w188 hbox hb; have n0_ := Aside0.mk (blk_below (g := gb337) (o := .cells #[.int .i64 t330, .int .i64 t331, .int .i64 t332, .int .i64 t333] 37 (0, 0)) (q_151) hb); have n1_ := Aside0.mk (blk_below (g := gb343) (o := .cells #[.int .i64 t338, .int .i64 t339, .int .i64 t340, .int .i64 t341] 37 (0, 0)) (q_156) hb); have n2_ := Aside0.mk (blk_below (g := gb349) (o := .cells #[.int .i64 t344, .int .i64 t345, .int .i64 t346, .int .i64 t347] 37 (0, 0)) (q_165) hb); have n3_ := Aside0.mk (blk_below (g := gb362) (o := .cells #[.int .i64 t357, .int .i64 t358, .int .i64 t359, .int .i64 t360] 37 (0, 0)) (q_177) hb); have n4_ := Aside0.mk (blk_below (g := gb368) (o := .cells #[.int .i64 t363, .int .i64 t364, .int .i64 t365, .int .i64 t366] 37 (0, 0)) (q_182) hb); have n5_ := Aside0.mk (blk_below (g := gb374) (o := .cells #[.int .i64 t369, .int .i64 t370, .int .i64 t371, .int .i64 t372] 37 (0, 0)) (q_188) hb); have n6_ := Aside0.mk (below_step (q_186) hb); have n7_ := Aside0.mk (hbox); have n8_ := Aside0.mk ((q_189 : w.heap.size ≤ gb382)); have n9_ := Aside0.mk ((q_189 : w.heap.size ≤ gb382)); have n10_ := Aside0.mk ((q_153 : gb337 ≠ gb382)); have n11_ := Aside0.mk ((q_154 : gb382 ≠ gb337)); have n12_ := Aside0.mk ((q_158 : gb343 ≠ gb382)); have n13_ := Aside0.mk ((q_159 : gb382 ≠ gb343)); have n14_ := Aside0.mk ((q_168 : gb349 ≠ gb382)); have n15_ := Aside0.mk ((q_169 : gb382 ≠ gb349)); have n16_ := Aside0.mk ((q_179 : gb362 ≠ gb382)); have n17_ := Aside0.mk ((q_180 : gb382 ≠ gb362)); have n18_ := Aside0.mk ((q_184 : gb368 ≠ gb382)); have n19_ := Aside0.mk ((q_185 : gb382 ≠ gb368)); have n20_ := Aside0.mk ((q_190 : gb374 ≠ gb382)); have n21_ := Aside0.mk ((q_191 : gb382 ≠ gb374)); clear BK337; clear BK343; clear BK349; clear BK362; clear BK368; clear BK374; clear HB; have BK337 := n0_; have BK343 := n1_; have BK349 := n2_; have BK362 := n3_; have BK368 := n4_; have BK374 := n5_; have HB := n6_; have BK382 := n7_; have GW382 := n8_; have GE382 := n9_; have NB337_382 := n10_; have NB382_337 := n11_; have NB343_382 := n12_; have NB382_343 := n13_; have NB349_382 := n14_; have NB382_349 := n15_; have NB362_382 := n16_; have NB382_362 := n17_; have NB368_382 := n18_; have NB382_368 := n19_; have NB374_382 := n20_; have NB382_374 := n21_; clear n0_ n1_ n2_ n3_ n4_ n5_ n6_ n7_ n8_ n9_ n10_ n11_ n12_ n13_ n14_ n15_ n16_ n17_ n18_ n19_ n20_ n21_; clear hb hbox hg; have hnb189 := NB382_337.out; have hnc189 := NB337_382.out; have hnb190 := NB382_343.out; have hnc190 := NB343_382.out; have hnb191 := NB382_349.out; have hnc191 := NB349_382.out; have hnb192 := NB382_362.out; have hnc192 := NB362_382.out; have hnb193 := NB382_368.out; have hnc193 := NB368_382.out; have hnb194 := NB382_374.out; have hnc194 := NB374_382.out; have hcz195_0 : w188.cell? ⟨gb382, 0, none⟩ = some (.int .i64 0) := (blk_cell BK382.out 0).trans rfl; have hcz195_1 : w188.cell? ⟨gb382, 1, none⟩ = some (.int .i64 0) := (blk_cell BK382.out 1).trans rfl; have hcz195_2 : w188.cell? ⟨gb382, 2, none⟩ = some (.int .i64 0) := (blk_cell BK382.out 2).trans rfl; have hcz195_3 : w188.cell? ⟨gb382, 3, none⟩ = some (.int .i64 0) := (blk_cell BK382.out 3).trans rfl; have hfz195_0 := blk_frozen BK382.out 0; have hfz195_1 := blk_frozen BK382.out 1; have hfz195_2 := blk_frozen BK382.out 2; have hfz195_3 := blk_frozen BK382.out 3))
            go_ret
            exact ⟨q_2, q_192⟩

/-- THE ONE PURE STATEMENT of laws_FnWindow: yours. -/
def laws_FnWindow.Pure : Prop := ∀ (l0 : List Int) (l1 : List Int), l0.length ≤ maxLen → l0.length * 1 ≤ 140737488351232 → (∀ x ∈ l0, (Lit.int .u8 x).wf = true) → l1.length ≤ maxLen → l1.length * 1 ≤ 140737488351232 → (∀ x ∈ l1, (Lit.int .u8 x).wf = true) → ∃ k, laws_FnWindow.f k l0 l1 = some true
theorem laws_FnWindow.walk (P : laws_FnWindow.Pure) (a0 : Option Addr) (len0 cap0 : Nat) (z0 : List Int) (a1 : Option Addr) (len1 cap1 : Nat) (z1 : List Int) (w : World) (w0 : (a0 = none ∧ len0 = 0 ∧ cap0 = 0 ∧ z0 = []) ∨ ∃ x, a0 = some x ∧ len0 ≤ cap0 ∧ cap0 ≤ maxLen ∧ z0.length = cap0 ∧ (∀ i, i < z0.length → w.cell? (x.add i) = some (.int .u8 (z0.getD i 0))) ∧ ∀ n ∈ z0, (Lit.int .u8 n).wf = true) (y0 : len0 * 1 ≤ 140737488351232) (w1 : (a1 = none ∧ len1 = 0 ∧ cap1 = 0 ∧ z1 = []) ∨ ∃ x, a1 = some x ∧ len1 ≤ cap1 ∧ cap1 ≤ maxLen ∧ z1.length = cap1 ∧ (∀ i, i < z1.length → w.cell? (x.add i) = some (.int .u8 (z1.getD i 0))) ∧ ∀ n ∈ z1, (Lit.int .u8 n).wf = true) (y1 : len1 * 1 ≤ 140737488351232) :
  Calls Try.prog 5 #[.slice a0 len0 cap0, .slice a1 len1 cap1] w fun e w' => e = .returned (.bool true) ∧ Below w.heap.size w w' := by
 obtain ⟨l0, rfl, hr0, hm0, hw0, hc0⟩ := ReadsInt.ofRowC w0
 obtain ⟨l1, rfl, hr1, hm1, hw1, hc1⟩ := ReadsInt.ofRowC w1
 obtain ⟨k, h⟩ := P l0 l1 hm0 y0 hw0 hm1 y1 hw1
 refine (laws_FnWindow.calls k _ _ l0 _ _ l1 true w (Kd.C_of_reads (d := (0 : Int)) (h1 := fun _ => rfl) hr0) hc0 (Kd.C_of_reads (d := (0 : Int)) (h1 := fun _ => rfl) hr1) hc1 h).mono ?_
 rintro e w' ⟨rfl, hd⟩
 exact ⟨rfl, hd⟩

end Go.Proofs.Ytcngjidojibleaa.PFnWindow
