/- A good frame's bytes are read back. -/
import Derived.Test.YtbfkfhadcmpndaaQFrameBFnFrames
import Derived.Test.YtbfkfhadcmpndaaQCurImplFnFrames
set_option linter.unusedVariables false
set_option linter.unusedSimpArgs false
namespace Go.Proofs.Ytbfkfhadcmpndaa.CFnFrames
open Go Go.Proofs Go.Proofs.YtbfkfhadcmpndaaPM Go.Proofs.Ytbfkfhadcmpndaa.Q Go.Proofs.Ytbfkfhadcmpndaa.GFnFrames

abbrev CurT := ByteArray × (Bool × Unit)
theorem run_at {α : Type} {g : Nat → Option ((α × Unit) × (CurT × Unit))} {p : PR α} {l t : ByteArray} {x : α} (h : EvP g (fun r => Run p (cst l false) r.1.1 (cst r.2.1.1 r.2.1.2.1))) (e : p l = some (x, t)) : EvP g (· = ((x, ()), ((t, (false, ())), ()))) := by
  refine h.mono fun r hr => ?_
  obtain ⟨⟨v, ⟨⟩⟩, ⟨l', sh, ⟨⟩⟩, ⟨⟩⟩ := r
  obtain ⟨e1, e2⟩ := Run.gives (s := l) hr e
  obtain ⟨e3, e4⟩ := cst_some.1 e2
  dsimp only at e1 e3 e4
  rw [e1, e3, e4]
theorem number_at {n : Int} (h : 0 ≤ n ∧ n ≤ 4611686018427387903) (t : ByteArray) : EvP (fun N => impl_cursor_number N (vbs n ++ t) false) (· = ((n, ()), ((t, (false, ())), ()))) :=
  run_at ((number_impl _ _).mono fun r hr => hr.1) (rdNum_vbs h.1 (by omega) t)
theorem counted_at {d : ByteArray} (h : d.size ≤ 1000000) (t : ByteArray) : EvP (fun N => impl_cursor_counted N (vbs (d.size : Int) ++ (d ++ t)) false) (· = ((d, ()), ((t, (false, ())), ()))) :=
  run_at ((counted_impl _ _).mono fun r hr => hr.1) (rdCounted_app (by omega))
theorem byte_at {n : Int} (h : 0 ≤ n ∧ n ≤ 255) (t : ByteArray) : EvP (fun N => impl_cursor_byte N (be 1 n ++ t) false) (· = ((n, ()), ((t, (false, ())), ()))) :=
  run_at ((byte_impl _ _).mono fun r hr => hr.1) (rdByte_app h.1 (by omega) t)
theorem take_at {n : Int} {d : ByteArray} (h : (d.size : Int) = n) (t : ByteArray) : EvP (fun N => impl_cursor_take N n (d ++ t) false) (· = ((d, ()), ((t, (false, ())), ()))) :=
  run_at ((take_impl (by omega) _ _).mono fun r hr => hr.1) (tk_app (by omega))
theorem rd_last {l : List (Int × Int)} (h : 0 < l.length) : (rdS RSh l (Int.toNat ((l.length : Int) - 1))).1 = before l := by
  obtain ⟨l', y, rfl⟩ : ∃ l' y, l = l' ++ [y] := ⟨l.dropLast, l.getLast (by intro e; rw [e] at h; cases h), (List.dropLast_concat_getLast _).symm⟩
  rw [before_app, show ((l' ++ [y]).length : Int) - 1 = (l'.length : Int) by rw [List.length_append]; simp]
  exact congrArg Prod.fst (rd_at l' y [])
theorem most_ok {n : Nat} (h : n ≤ 1000000) : n < most := Nat.lt_of_le_of_lt h (by decide)
theorem ranges_l (e : Int) (t : ByteArray) : ∀ (s l : List (Int × Int)) (i : Nat), 0 < l.length → l.length + s.length ≤ 20 → i + s.length ≤ 100 → rngB (before l) s = true → (0 ≤ before l ∧ before l ≤ 4611686018427387903) →
    EvP (fun N => impl_cursor_ranges.l0 N e (((i + s.length : Nat) : Int)) ((i : Nat) : Int) (rngW (before l) s ++ t) false l) (fun z => z.2 = ((t, (false, ())), (l ++ s, ()))) := by
  intro s
  induction s with
  | nil =>
    intro l i h0 hl hi _ _
    refine EvP.step (fun N => impl_cursor_ranges.l0.eq N _ _ _ _ _ _) (EvP.neg (by simp) (EvP.some ?_))
    show ((nilS ++ t, (false, ())), (l, ())) = ((t, (false, ())), (l ++ [], ()))
    rw [nil_app, List.append_nil]
  | cons x s ih =>
    intro l i h0 hl hi hb hp
    rw [List.length_cons] at hl hi
    unfold rngB at hb
    rw [Bool.and_eq_true, decide_eq_true_eq] at hb
    obtain ⟨⟨b1, b2, ⟨b3, b4⟩, b5⟩, hb⟩ := hb
    refine EvP.step (fun N => impl_cursor_ranges.l0.eq N _ _ _ _ _ _) (EvP.pos (by rw [List.length_cons]; omega) ?_)
    rw [show rngW (before l) (x :: s) ++ t = vbs (before l - x.2 - 2) ++ (vbs (x.2 - x.1) ++ (rngW x.1 s ++ t)) by rw [rngW]; simp only [ByteArray.append_assoc]]
    have hy := rd_last h0
    have hw : IntKind.i64.wrap ((l.length : Int) - 1) = (l.length : Int) - 1 := i64w (by omega) (by omega)
    have hw1 : IntKind.i64.wrap (before l - (before l - x.2 - 2)) = x.2 + 2 := by rw [i64w (by omega) (by omega)]; omega
    have hw2 : IntKind.i64.wrap (x.2 + 2 - 2) = x.2 := by rw [i64w (by omega) (by omega)]; omega
    have hw3 : IntKind.i64.wrap (x.2 - (x.2 - x.1)) = x.1 := by rw [i64w (by omega) (by omega)]; omega
    refine EvP.to (a := .inr (((), ((), ())), ((rngW x.1 s ++ t, (false, ())), (l ++ [x], ())))) ?_ (EvP.inr ?_)
    · refine EvP.to (number_at ⟨by omega, by omega⟩ _) (EvP.to (number_at ⟨by omega, by omega⟩ _) (EvP.no rfl ?_))
      simp only [hw, hy, hw1, hw2]
      refine EvP.chk2 (by omega) (by omega) (EvP.to (a := (((), ((), (false, ()))), ((rngW x.1 s ++ t, (false, ())), (l, ())))) (EvP.neg (show ¬ before l < 0 by omega) (EvP.some ?_)) (EvP.no rfl (EvP.to (a := (((), ((), (x.2 - x.1, ()))), ((rngW x.1 s ++ t, (false, ())), (l, ())))) (EvP.neg (by omega) (EvP.some rfl)) (EvP.chk1 (most_ok (by dsimp only; omega)) (EvP.some ?_)))))
      · rw [decide_eq_false (show ¬ (20 : Int) < (l.length : Int) by omega)]
      · dsimp only
        rw [hw3]
    · have hi2 := ih (l ++ [x]) (i + 1) (by simp) (by rw [List.length_append, List.length_singleton]; omega) (by omega) (by rw [before_app]; exact hb) (by rw [before_app]; omega)
      rw [before_app, List.append_assoc] at hi2
      rw [show ((i + (x :: s).length : Nat) : Int) = ((i + 1 + s.length : Nat) : Int) by rw [List.length_cons]; omega]
      dsimp only
      rw [show IntKind.i64.wrap ((i : Int) + 1) = ((i + 1 : Nat) : Int) by rw [i64w (by omega) (by omega)]; omega]
      exact hi2
end Go.Proofs.Ytbfkfhadcmpndaa.CFnFrames
