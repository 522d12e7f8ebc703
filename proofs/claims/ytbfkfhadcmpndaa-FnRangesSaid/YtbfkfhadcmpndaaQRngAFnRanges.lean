/- Ranges: which are good, and whether a number is in them: both packages. -/
import Derived.Test.YtbfkfhadcmpndaaQFrameRFnRanges
set_option linter.unusedVariables false
set_option linter.unusedSectionVars false
set_option linter.unusedSimpArgs false
namespace Go.Proofs.Ytbfkfhadcmpndaa.CFnRanges
open Go Go.Proofs Go.Proofs.YtbfkfhadcmpndaaPM Go.Proofs.Ytbfkfhadcmpndaa.Q Go.Proofs.Ytbfkfhadcmpndaa.GFnRanges
def hasB (l : List (Int × Int)) (n : Int) : Bool := l.any fun r => decide (r.1 ≤ n ∧ n ≤ r.2)
/-! ### whether a number is in ranges -/
theorem has_l_s (n : Int) : ∀ (r l : List (Int × Int)) (L : List (Int × Int)), L = l ++ r → (L.length : Int) ≤ 4611686018427387903 →
    EvP (fun N => spec_l12Has.l0 N n L (L.length : Int) (l.length : Int)) (· = if hasB r n = true then .inl ((true, ()), ()) else .inr ((), ())) := by
  intro r
  induction r with
  | nil =>
    intro l L e hL
    rw [List.append_nil] at e
    subst e
    exact EvP.step (fun N => spec_l12Has.l0.eq N _ _ _ _) (EvP.neg (by omega) (EvP.some rfl))
  | cons x r ih =>
    intro l L e hL
    have hlen : L.length = l.length + (r.length + 1) := by rw [e, List.length_append, List.length_cons]
    refine EvP.step (fun N => spec_l12Has.l0.eq N _ _ _ _) (EvP.pos (by omega) (EvP.chk2 (by omega) (by omega) ?_))
    have hx : rdS RSh L (Int.toNat (l.length : Int)) = x := by rw [e]; exact rd_at l x r
    have hw2 : IntKind.i64.wrap ((l.length : Int) + 1) = (((l ++ [x]).length : Nat) : Int) := by rw [i64w (by omega) (by omega), List.length_append]; rfl
    simp only [hx, hw2]
    refine EvP.to (in_s _ _ _) ?_
    have hd : hasB (x :: r) n = (decide (x.1 ≤ n ∧ n ≤ x.2) || hasB r n) := rfl
    rw [hd]
    refine EvP.ite (fun h => EvP.some ?_) (fun h => ?_)
    · rw [decide_eq_true h, Bool.true_or, if_pos rfl]
    · rw [decide_eq_false h, Bool.false_or]
      exact ih (l ++ [x]) L (by rw [e, List.append_assoc]; rfl) hL
theorem has_s (l : List (Int × Int)) (n : Int) (h : (l.length : Int) ≤ 4611686018427387903) : EvP (fun N => spec_l12Has N l n) (· = ((hasB l n, ()), ())) := by
  refine EvP.of (fun N => spec_l12Has.eq N _ _) (EvP.to (has_l_s n l [] l rfl h) ?_)
  show EvP (fun N => orK (if hasB l n = true then _ else _) _ _) _
  cases hasB l n with
  | true => exact EvP.inl (EvP.some rfl)
  | false => exact EvP.inr (EvP.some rfl)
theorem has_l_i (n : Int) : ∀ (r l : List (Int × Int)) (L : List (Int × Int)), L = l ++ r → (L.length : Int) ≤ 4611686018427387903 →
    EvP (fun N => slices_IndexFuncimpl_Range_impl_Range.l0 N L (L.length : Int) (l.length : Int) n) (fun z => match hasB r n with | true => ∃ k : Int, 0 ≤ k ∧ z = .inl ((k, ()), ((n, ()), ())) | false => z = .inr ((), ((n, ()), ()))) := by
  intro r
  induction r with
  | nil =>
    intro l L e hL
    rw [List.append_nil] at e
    subst e
    exact EvP.step (fun N => slices_IndexFuncimpl_Range_impl_Range.l0.eq N _ _ _ _) (EvP.neg (by omega) (EvP.some rfl))
  | cons x r ih =>
    intro l L e hL
    have hlen : L.length = l.length + (r.length + 1) := by rw [e, List.length_append, List.length_cons]
    refine EvP.step (fun N => slices_IndexFuncimpl_Range_impl_Range.l0.eq N _ _ _ _) (EvP.pos (by omega) (EvP.chk2 (by omega) (by omega) ?_))
    have hx : rdS RSh L (Int.toNat (l.length : Int)) = x := by rw [e]; exact rd_at l x r
    have hw2 : IntKind.i64.wrap ((l.length : Int) + 1) = (((l ++ [x]).length : Nat) : Int) := by rw [i64w (by omega) (by omega), List.length_append]; rfl
    simp only [hx, hw2]
    refine EvP.to (EvP.of (fun N => impl_hasNumber_1.eq N _ _ _) (EvP.to (in_i _ _ _) (EvP.some rfl))) ?_
    have hd : hasB (x :: r) n = (decide (x.1 ≤ n ∧ n ≤ x.2) || hasB r n) := rfl
    rw [hd]
    refine EvP.ite (fun h => EvP.some ?_) (fun h => ?_)
    · rw [decide_eq_true h, Bool.true_or]
      exact ⟨_, by omega, rfl⟩
    · rw [decide_eq_false h, Bool.false_or]
      exact ih (l ++ [x]) L (by rw [e, List.append_assoc]; rfl) hL
theorem has_i (l : List (Int × Int)) (n : Int) (h : (l.length : Int) ≤ 4611686018427387903) : EvP (fun N => impl_hasNumber N l n) (· = ((hasB l n, ()), ())) := by
  refine EvP.of (fun N => impl_hasNumber.eq N _ _) (EvP.to (a := ((hasB l n, ()), ((n, ()), ()))) ?_ (EvP.some rfl))
  refine EvP.of (fun N => slices_ContainsFuncimpl_Range_impl_Range.eq N _ _) ?_
  refine EvP.andK (Q := fun z => decide (0 ≤ z.1.1) = hasB l n ∧ z.2 = ((n, ()), ())) ?_ ?_
  · refine EvP.of (fun N => slices_IndexFuncimpl_Range_impl_Range.eq N _ _) (EvP.andK (has_l_i n l [] l rfl h) fun z hz => ?_)
    cases hb : hasB l n with
    | true =>
      rw [hb] at hz
      obtain ⟨k, hk, rfl⟩ := hz
      exact EvP.inl (EvP.some ⟨decide_eq_true hk, rfl⟩)
    | false =>
      rw [hb] at hz
      subst hz
      exact EvP.inr (EvP.some ⟨rfl, rfl⟩)
  · rintro ⟨⟨z, ⟨⟩⟩, w⟩ ⟨h1, h2⟩
    exact EvP.some (by dsimp only at h1 h2 ⊢; rw [h1, h2])

/-! ### good ranges -/
def goodLB (l : List (Int × Int)) : Bool := decide ((l.length : Int) ≤ 20) && rngB topP l
theorem goodL_i (l : List (Int × Int)) : EvP (fun N => impl_GoodRanges N l) (· = ((goodLB l, ()), ())) := by
  refine EvP.of (fun N => impl_GoodRanges.eq N _) (EvP.ite (fun h => EvP.to (ranges_impl l (by omega)) (EvP.some ?_)) (fun h => EvP.some ?_))
  · unfold goodLB; rw [decide_eq_true h]; rfl
  · unfold goodLB; rw [decide_eq_false h]; rfl
theorem goodL_s (l : List (Int × Int)) : EvP (fun N => spec_l12Ranges N l) (· = ((goodLB l, ()), ())) := by
  refine EvP.of (fun N => spec_l12Ranges.eq N _) (EvP.ite (fun h => EvP.some ?_) (fun h1 => EvP.ite (fun h => EvP.to (ranges_spec l (by omega)) (EvP.some ?_)) (fun h => EvP.some ?_)))
  · have : l = [] := List.eq_nil_of_length_eq_zero (by omega)
    subst this
    rfl
  · unfold goodLB; dsimp only; rw [decide_eq_true h, decide_eq_true (show 1 ≤ (l.length : Int) ∧ (l.length : Int) ≤ 20 by omega), Bool.and_true, Bool.true_and]
  · unfold goodLB; rw [decide_eq_false h]; rfl
end Go.Proofs.Ytbfkfhadcmpndaa.CFnRanges
