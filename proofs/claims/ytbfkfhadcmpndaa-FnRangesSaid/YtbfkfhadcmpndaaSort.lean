/- slices.SortFunc at this seat's ranges (by their upper ends, the greatest first): what it says. -/
import Derived.Test.YtbfkfhadcmpndaaSortP
import Derived.Test.YtbfkfhadcmpndaaShelf
set_option linter.unusedVariables false
set_option linter.unusedSectionVars false
set_option linter.unusedSimpArgs false
noncomputable section
namespace Go.Proofs.YtbfkfhadcmpndaaPM
open Go Go.RowKit Go.Lib Go.Sort Go.Proofs Go.Shelf

def cmpTo (x y : Int × Int) : Int := Lib.compareInt y.2 x.2
theorem cmpTo_lt (x y : Int × Int) : ltOf cmpTo x y = decide (y.2 < x.2) := by
  unfold ltOf cmpTo Lib.compareInt
  by_cases h1 : y.2 < x.2
  · simp [h1]
  · by_cases h2 : x.2 < y.2 <;> simp [h1, h2]
theorem swoTo : SWO (ltOf cmpTo) where
  irrefl x := by rw [cmpTo_lt]; simp
  trans x y z h1 h2 := by rw [cmpTo_lt] at *; simp at *; omega
  ntrans x y z h1 h2 := by rw [cmpTo_lt] at *; simp at *; omega
set_option maxHeartbeats 1000000 in
theorem closureTo (x y : Int × Int) (W : World) : Calls Try.prog 129 #[.agg #[.int .i64 x.1, .int .i64 x.2], .agg #[.int .i64 y.1, .int .i64 y.2]] W fun e w' => e = .returned (.int .i64 (Lib.compareInt y.2 x.2)) ∧ ∃ q os', w' = grow (W.drewN q) os' := by
  have hcon := fun W' => Try.cmp_Compare_int y.2 x.2 W'
  change ∀ W', Calls Try.prog 130 _ _ _ at hcon
  generalize Lib.compareInt y.2 x.2 = r at hcon ⊢
  go_enter Try.func129, Try.ntmps129
  go_wp2_with (go_at_call 130; refine (hcon _).mono ?_; rintro e w' ⟨rfl, rfl⟩)
  go_ret
  exact ⟨rfl, 0, _, by rw [alloc_eq_grow, alloc_eq_grow, grow_grow]; rfl⟩
theorem sort_say_cmpTo : SayOk Try.prog (sortS cmpTo 128 129) :=
  sayOk_sort (enters_mk (fn := Try.f128) (c := bodyOf Try.f128) (by kernel_rfl) (by kernel_rfl) (by kernel_rfl)) swoTo
    (fun a cap w => Try.slices_SortFunc_none (α := Int) a cap _ w)
    (fun b cap d w hH hb hsz => Try.slices_SortFunc_eq 2 Try.isAgg113 Try.sizeOf113 encI (fun _ => rfl) (fun x v hv => by simp [encI] at hv; rcases hv with rfl | rfl <;> rfl) cmpTo swoTo 129 #[] b 0 cap d w
      (enters_mk (fn := Try.f129) (c := bodyOf Try.f129) (by kernel_rfl) (by kernel_rfl) (by kernel_rfl)) (fun _ _ _ _ x y => closureTo x y _) hH hb hsz)
end Go.Proofs.YtbfkfhadcmpndaaPM
