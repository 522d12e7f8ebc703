/- The program's cursor: what its steps read. -/
import Derived.Test.YtcngjidojibleabQVarImplFnHeaders
set_option linter.unusedVariables false
set_option linter.unusedSimpArgs false
namespace Go.Proofs.Ytcngjidojibleab.CFnHeaders
open Go Go.Proofs Go.Proofs.YtcngjidojibleabPM Go.Proofs.Ytcngjidojibleab.Q Go.Proofs.Ytcngjidojibleab.GFnHeaders

theorem take_impl {n : Int} (hn : 0 ≤ n) (l : ByteArray) (sh : Bool) : EvP (fun N => impl_cursor_take N n l sh) (fun r => Run (tk n.toNat) (cst l sh) r.1.1 (cst r.2.1.1 r.2.1.2.1) ∧ r.1.1.size ≤ n.toNat ∧ r.2.1.1.size ≤ l.size) := by
  refine EvP.of (fun N => impl_cursor_take.eq N _ _ _) ?_
  refine EvP.to (a := (((), (sh || decide ((l.size : Int) < n), ())), ((l, (sh, ())), ()))) ?_ ?_
  · cases sh
    · exact EvP.no rfl (EvP.some (by rw [Bool.false_or]))
    · exact EvP.yes rfl (EvP.some rfl)
  · dsimp only
    cases sh
    · rw [Bool.false_or]
      refine EvP.ite (fun h => EvP.some ⟨?_, Nat.zero_le _, Nat.le_refl _⟩) (fun h => ?_)
      · show Run (tk n.toNat) (some l) _ none
        unfold Run
        rw [show (some l).bind (tk n.toNat) = none by show tk n.toNat l = none; unfold tk; rw [if_pos (by omega)]]
      · refine EvP.chk2 hn (by omega) (EvP.chk3 hn (by omega) (by omega) (EvP.some ⟨?_, ?_, ?_⟩))
        · show Run (tk n.toNat) (some l) _ (some _)
          unfold Run
          rw [show (some l).bind (tk n.toNat) = some (l.extract 0 n.toNat, l.extract n.toNat l.size) by show tk n.toNat l = _; unfold tk; rw [if_neg (by omega)]]
          exact ⟨rfl, by rw [Int.toNat_natCast]⟩
        · dsimp only; rw [extract_size (by omega)]; omega
        · dsimp only; rw [Int.toNat_natCast, extract_size (Nat.le_refl _)]; omega
    · exact EvP.yes rfl (EvP.some ⟨rfl, Nat.zero_le _, Nat.le_refl _⟩)
theorem byte_impl (l : ByteArray) (sh : Bool) : EvP (fun N => impl_cursor_byte N l sh) (fun r => Run rdByte (cst l sh) r.1.1 (cst r.2.1.1 r.2.1.2.1) ∧ 0 ≤ r.1.1 ∧ r.1.1 ≤ 255 ∧ r.2.1.1.size ≤ l.size) := by
  refine EvP.of (fun N => impl_cursor_byte.eq N _ _) (EvP.andK (take_impl (by decide) l sh) ?_)
  rintro u ⟨h1, h2, h3⟩
  refine EvP.to (number_ok _ (by omega)) (EvP.some ?_)
  have hv := vof_range u.1.1
  have hv2 : vof u.1.1 ≤ 255 := by
    have : u.1.1.size = 0 ∨ u.1.1.size = 1 := by omega
    rcases this with e | e <;> rw [e] at hv <;> have := hv.2 <;> omega
  dsimp only
  rw [i64w (by omega) (by omega)]
  exact ⟨Run.map h1 fun _ => rfl, hv.1, hv2, h3⟩
theorem word_impl (l : ByteArray) (sh : Bool) : EvP (fun N => impl_cursor_take N 4 l sh) (fun r => (Run rdWord (cst l sh) (vof r.1.1) (cst r.2.1.1 r.2.1.2.1) ∧ 0 ≤ vof r.1.1 ∧ vof r.1.1 ≤ 4294967295) ∧ r.1.1.size ≤ 8 ∧ r.2.1.1.size ≤ l.size) := by
  refine (take_impl (n := 4) (by decide) l sh).mono ?_
  rintro u ⟨h1, h2, h3⟩
  have h2 : u.1.1.size ≤ 4 := h2
  have hv := vof_range u.1.1
  have hv2 : vof u.1.1 ≤ 4294967295 := by
    have : u.1.1.size = 0 ∨ u.1.1.size = 1 ∨ u.1.1.size = 2 ∨ u.1.1.size = 3 ∨ u.1.1.size = 4 := by omega
    rcases this with e | e | e | e | e <;> rw [e] at hv <;> have := hv.2 <;> omega
  exact ⟨⟨Run.map h1 fun _ => rfl, hv.1, hv2⟩, by omega, h3⟩
theorem rest_impl (l : ByteArray) (sh : Bool) : EvP (fun N => impl_cursor_rest N l sh) (fun r => Run rdRest (cst l sh) r.1.1 (cst r.2.1.1 r.2.1.2.1)) := by
  refine EvP.of (fun N => impl_cursor_rest.eq N _ _) (EvP.andK (take_impl (n := (l.size : Int)) (by omega) l sh) ?_)
  rintro u ⟨h1, _, _⟩
  refine EvP.some ?_
  dsimp only
  rw [Int.toNat_natCast] at h1
  have e : tk l.size l = some (l, ⟨#[]⟩) := by
    have := tk_app (s := l) (t := ⟨#[]⟩) rfl
    rwa [app_nil] at this
  cases sh with
  | true => exact h1
  | false =>
    have h2 := Run.gives (s := l) h1 e
    exact h2
theorem number_impl (l : ByteArray) (sh : Bool) : EvP (fun N => impl_cursor_number N l sh) (fun r => Run rdNum (cst l sh) r.1.1 (cst r.2.1.1 r.2.1.2.1) ∧ 0 ≤ r.1.1 ∧ r.1.1 < 4611686018427387904 ∧ r.2.1.1.size ≤ l.size) := by
  refine EvP.of (fun N => impl_cursor_number.eq N _ _) (EvP.to (Take_impl l) ?_)
  have hr := TakeV_range l
  refine EvP.to (a := (((), ()), ((l, (sh || decide ((TakeV l).2 = 0), ())), ()))) ?_ ?_
  · refine EvP.ite (fun h => EvP.some ?_) (fun h => EvP.some ?_)
    · rw [decide_eq_true h, Bool.or_true]
    · rw [decide_eq_false h, Bool.or_false]
  · dsimp only
    refine EvP.chk3 hr.2.2.1 hr.2.2.2.2 (Int.le_refl _) (EvP.some ⟨?_, hr.1, hr.2.1, ?_⟩)
    · dsimp only
      cases sh with
      | true => exact rfl
      | false =>
        show Run rdNum (some l) _ _
        unfold Run
        rw [show (some l).bind rdNum = rdNum l from rfl]
        by_cases h : (TakeV l).2 = 0
        · rw [show rdNum l = none by unfold rdNum; rw [if_pos h]]
          show cst _ (false || decide ((TakeV l).2 = 0)) = none
          rw [decide_eq_true h]
          rfl
        · rw [show rdNum l = some ((TakeV l).1, l.extract (TakeV l).2.toNat l.size) by unfold rdNum; rw [if_neg h]]
          refine ⟨rfl, ?_⟩
          show cst _ (false || decide ((TakeV l).2 = 0)) = _
          rw [decide_eq_false h, Int.toNat_natCast]
          rfl
    · dsimp only
      rw [Int.toNat_natCast, extract_size (Nat.le_refl _)]; omega
theorem counted_impl (l : ByteArray) (sh : Bool) : EvP (fun N => impl_cursor_counted N l sh) (fun r => Run rdCounted (cst l sh) r.1.1 (cst r.2.1.1 r.2.1.2.1) ∧ r.2.1.1.size ≤ l.size) := by
  refine EvP.of (fun N => impl_cursor_counted.eq N _ _) (EvP.andK (number_impl l sh) ?_)
  rintro u ⟨h1, h2, h3, h4⟩
  refine EvP.andK (take_impl h2 _ _) ?_
  rintro v ⟨h5, h6, h7⟩
  have h8 := Run.bind (q := fun n : Int => tk n.toNat) h1 h5
  exact EvP.some ⟨h8, by dsimp only; omega⟩
end Go.Proofs.Ytcngjidojibleab.CFnHeaders
