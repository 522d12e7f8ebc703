/- The program's cursor: some bytes, and a number. -/
import Derived.Test.YtbfkfhadcmpndaaQVarImplFnFrames
set_option linter.unusedVariables false
set_option linter.unusedSimpArgs false
namespace Go.Proofs.Ytbfkfhadcmpndaa.CFnFrames
open Go Go.Proofs Go.Proofs.YtbfkfhadcmpndaaPM Go.Proofs.Ytbfkfhadcmpndaa.Q Go.Proofs.Ytbfkfhadcmpndaa.GFnFrames

theorem take_impl {n : Int} (hn : 0 ≤ n) (l : ByteArray) (sh : Bool) : EvP (fun N => impl_cursor_take N n l sh) (fun r => Run (tk n.toNat) (cst l sh) r.1.1 (cst r.2.1.1 r.2.1.2.1) ∧ r.1.1.size ≤ n.toNat ∧ r.2.1.1.size ≤ l.size) := by
  refine EvP.of (fun N => impl_cursor_take.eq N _ _ _) ?_
  refine EvP.to (a := (((), (sh || decide ((l.size : Int) < n), ())), ((l, (sh, ())), ()))) ?_ ?_
  · cases sh
    · exact EvP.no rfl (EvP.some (by rw [Bool.false_or]))
    · exact EvP.yes rfl (EvP.some rfl)
  · dsimp only
    cases sh
    · rw [Bool.false_or]
      refine EvP.ite (fun h => EvP.some ⟨?_, Nat.zero_le _, Nat.le_refl _⟩) (fun h => ?_)
      · show Run (tk n.toNat) (some l) _ none
        unfold Run
        rw [show (some l).bind (tk n.toNat) = none by show tk n.toNat l = none; unfold tk; rw [if_pos (by omega)]]
      · refine EvP.chk2 hn (by omega) (EvP.chk3 hn (by omega) (by omega) (EvP.some ⟨?_, ?_, ?_⟩))
        · show Run (tk n.toNat) (some l) _ (some _)
          unfold Run
          rw [show (some l).bind (tk n.toNat) = some (l.extract 0 n.toNat, l.extract n.toNat l.size) by show tk n.toNat l = _; unfold tk; rw [if_neg (by omega)]]
          exact ⟨rfl, by rw [Int.toNat_natCast]⟩
        · dsimp only; rw [extract_size (by omega)]; omega
        · dsimp only; rw [Int.toNat_natCast, extract_size (Nat.le_refl _)]; omega
    · exact EvP.yes rfl (EvP.some ⟨rfl, Nat.zero_le _, Nat.le_refl _⟩)
theorem number_impl (l : ByteArray) (sh : Bool) : EvP (fun N => impl_cursor_number N l sh) (fun r => Run rdNum (cst l sh) r.1.1 (cst r.2.1.1 r.2.1.2.1) ∧ 0 ≤ r.1.1 ∧ r.1.1 < 4611686018427387904 ∧ r.2.1.1.size ≤ l.size) := by
  refine EvP.of (fun N => impl_cursor_number.eq N _ _) (EvP.to (Take_impl l) ?_)
  have hr := TakeV_range l
  refine EvP.to (a := (((), ()), ((l, (sh || decide ((TakeV l).2 = 0), ())), ()))) ?_ ?_
  · refine EvP.ite (fun h => EvP.some ?_) (fun h => EvP.some ?_)
    · rw [decide_eq_true h, Bool.or_true]
    · rw [decide_eq_false h, Bool.or_false]
  · dsimp only
    refine EvP.chk3 hr.2.2.1 hr.2.2.2.2 (Int.le_refl _) (EvP.some ⟨?_, hr.1, hr.2.1, ?_⟩)
    · dsimp only
      cases sh with
      | true => exact rfl
      | false =>
        show Run rdNum (some l) _ _
        unfold Run
        rw [show (some l).bind rdNum = rdNum l from rfl]
        by_cases h : (TakeV l).2 = 0
        · rw [show rdNum l = none by unfold rdNum; rw [if_pos h]]
          show cst _ (false || decide ((TakeV l).2 = 0)) = none
          rw [decide_eq_true h]
          rfl
        · rw [show rdNum l = some ((TakeV l).1, l.extract (TakeV l).2.toNat l.size) by unfold rdNum; rw [if_neg h]]
          refine ⟨rfl, ?_⟩
          show cst _ (false || decide ((TakeV l).2 = 0)) = _
          rw [decide_eq_false h, Int.toNat_natCast]
          rfl
    · dsimp only
      rw [Int.toNat_natCast, extract_size (Nat.le_refl _)]; omega
end Go.Proofs.Ytbfkfhadcmpndaa.CFnFrames
