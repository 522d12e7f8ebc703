/- What is carried: what is right of it, and how the program reads it. -/
import Derived.Test.YtcngjidojibleaaReadVarFnCarried
import Derived.Test.YtcngjidojibleaaInFnCarried
set_option linter.unusedVariables false
set_option linter.unusedSimpArgs false
namespace Go.Proofs.Ytcngjidojibleaa.CFnCarried
open Go.RowKit Go.Proofs.Ytcngjidojibleaa.B Go.Proofs.Ytcngjidojibleaa.PFnCarried Go.Proofs.YtcngjidojibleaaW.PrintWords Go.Proofs.YtcngjidojibleaaW.PrintLast Go.Proofs.YtcngjidojibleaaW.PrintMore

/-- What is right of what is carried. -/
def goodC (s c : Int) (d : ByteArray) : Bool := decide ((0 ≤ s ∧ s ≤ 4611686018427387900) ∧ s % 4 = 0 ∧ (0 ≤ c ∧ c ≤ 4611686018427387903) ∧ (d.size : Int) ≤ 1200)
theorem good_spec (s c : Int) (d : ByteArray) : spec_GoodCarried.f s c d = some (goodC s c d) := by
  unfold goodC
  simp only [spec_GoodCarried.f, spec_l1Known.f, in_spec, Option.bind_some]
  by_cases h1 : 0 ≤ s ∧ s ≤ 4611686018427387900
  · rw [if_pos (by simpa using h1), Int.tmod_eq_emod_of_nonneg h1.1]
    by_cases h2 : s % 4 = 0
    · rw [if_pos h2]
      by_cases h3 : 0 ≤ c ∧ c ≤ 4611686018427387903
      · rw [if_pos (by simpa using h3)]; simp [h1, h2, h3]
      · rw [if_neg (by simpa using h3)]; simp [h3]
    · rw [if_neg h2]; simp [h2]
  · rw [if_neg (by simpa using h1)]; simp [h1]
theorem good_impl (s c : Int) (d : ByteArray) : impl_GoodCarried.f s c d = some (goodC s c d) := by
  unfold goodC
  simp only [impl_GoodCarried.f, impl_isStream.f, impl_isVarint.f, in_impl, Option.bind_some]
  by_cases h1 : 0 ≤ s ∧ s ≤ 4611686018427387900
  · rw [if_pos (by simpa using h1), Int.tmod_eq_emod_of_nonneg h1.1]
    by_cases h2 : s % 4 = 0
    · simp only [Option.bind_some]
      rw [if_pos (by simp [h2])]
      by_cases h3 : 0 ≤ c ∧ c ≤ 4611686018427387903
      · rw [if_pos (by simpa using h3)]; simp [h1, h2, h3]
      · rw [if_neg (by simpa using h3)]; simp [h3]
    · simp only [Option.bind_some]
      rw [if_neg (by simp [h2])]; simp [h2]
  · rw [if_neg (by simpa using h1)]; simp [h1]

/-- What both read. -/
def Car (s : ByteArray) : Int × Int × ByteArray × Bool :=
  if (s.size : Int) > 1500 ∨ (TakeV s).2 = 0 ∨ (TakeV s).1 > 1152921504606846975 ∨ (TakeV (leftV s)).2 = 0 ∨ goodC (4 * (TakeV s).1) (TakeV (leftV s)).1 (leftV (leftV s)) = false then (0, 0, ⟨#[]⟩, false)
  else (4 * (TakeV s).1, (TakeV (leftV s)).1, leftV (leftV s), true)
theorem ReadCarried_impl (s : ByteArray) (hs : (s.size : Int) ≤ 1048576) : EvP (fun k => impl_ReadCarried.f k s) (· = Car s) := by
  unfold Car
  simp only [impl_ReadCarried.f]
  refine EvP.bind (curNumber_ok s false) ?_
  rintro p rfl
  refine EvP.bind (curNumber_ok _ _) ?_
  rintro p rfl
  obtain ⟨r1, r2, r3, r4, r5⟩ := TakeV_range s
  simp only
  generalize hsh : (if (TakeV (leftV s)).2 = 0 then true else if (TakeV s).2 = 0 then true else false) = sh
  have hz : ∀ d, EvP (fun k => impl_ReadCarried.j0 k (TakeV s).1 (TakeV (leftV s)).1 d true) (· = ((0, 0, (⟨#[]⟩ : ByteArray), false) : Int × Int × ByteArray × Bool)) := by
    intro d
    refine EvP.step (fun k => by rw [impl_ReadCarried.j0]) ?_
    exact EvP.pos rfl (EvP.some rfl)
  cases sh with
  | true =>
    have hc : (TakeV s).2 = 0 ∨ (TakeV (leftV s)).2 = 0 := by
      by_cases a : (TakeV (leftV s)).2 = 0
      · exact .inr a
      · by_cases b : (TakeV s).2 = 0
        · exact .inl b
        · simp [a, b] at hsh
    simp only [impl_cursor_rest.f, impl_cursor_take.f, if_true, Option.bind_some]
    have hr : EvP (fun k => impl_ReadCarried.j0 k (TakeV s).1 (TakeV (leftV s)).1 (⟨#[]⟩ : ByteArray) true) (· = (if (s.size : Int) > 1500 ∨ (TakeV s).2 = 0 ∨ (TakeV s).1 > 1152921504606846975 ∨ (TakeV (leftV s)).2 = 0 ∨ goodC (4 * (TakeV s).1) (TakeV (leftV s)).1 (leftV (leftV s)) = false then (0, 0, ⟨#[]⟩, false)
  else (4 * (TakeV s).1, (TakeV (leftV s)).1, leftV (leftV s), true))) := by
      rw [if_pos (by rcases hc with h | h <;> simp [h])]; exact hz _
    exact EvP.ite (fun _ => hr) (fun _ => hr)
  | false =>
    have hc : ¬ (TakeV s).2 = 0 ∧ ¬ (TakeV (leftV s)).2 = 0 := by
      by_cases a : (TakeV (leftV s)).2 = 0
      · simp [a] at hsh
      · by_cases b : (TakeV s).2 = 0
        · simp [b] at hsh
        · exact ⟨b, a⟩
    simp only [impl_cursor_rest.f, impl_cursor_take.f]
    refine EvP.bind0 (Q := fun t => t = (leftV (leftV s), (leftV (leftV s)).extract (leftV (leftV s)).size (leftV (leftV s)).size, false)) ?_ ?_
    · refine Post.bind (Q := fun t => t = (leftV (leftV s), (leftV (leftV s)).extract (leftV (leftV s)).size (leftV (leftV s)).size, false)) ?_ ?_
      · rw [if_neg (by simp), if_neg (by omega), if_pos (by omega), if_pos (by omega), Int.toNat_natCast]
        exact Post.some (by rw [extract_all])
      · rintro t rfl; exact Post.some rfl
    · rintro t rfl
      refine EvP.ite (fun c1 => by rw [if_pos (.inl c1)]; exact hz _) (fun c1 => ?_)
      refine EvP.neg (by simp) ?_
      by_cases c3 : (TakeV s).1 > 1152921504606846975
      · rw [decide_eq_true c3, if_pos (.inr (.inr (.inl c3)))]; exact hz _
      rw [decide_eq_false c3]
      refine EvP.step (fun k => by rw [impl_ReadCarried.j0]) ?_
      refine EvP.neg (by simp) ?_
      rw [w64 (n := (TakeV s).1 * 4) (by omega) (by omega), show (TakeV s).1 * 4 = 4 * (TakeV s).1 by omega, good_impl]
      refine EvP.bind0 (Q := fun t => t = goodC (4 * (TakeV s).1) (TakeV (leftV s)).1 (leftV (leftV s))) ⟨_, rfl, rfl⟩ ?_
      rintro t rfl
      refine EvP.ite (fun c5 => ?_) (fun c5 => ?_)
      · rw [if_neg (by simp only [not_or]; exact ⟨c1, hc.1, c3, hc.2, by rw [c5]; simp⟩)]; exact EvP.some rfl
      · rw [if_pos (.inr (.inr (.inr (.inr (by simpa using c5)))))]; exact EvP.some rfl
end Go.Proofs.Ytcngjidojibleaa.CFnCarried
