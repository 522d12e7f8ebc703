/- The laws' marks in rows of texts; rows of texts that are alike. -/
import Derived.Test.YtcngjidojibleaaQMarkFnExactFeedCapsules
set_option linter.unusedVariables false
set_option linter.unusedSimpArgs false
namespace Go.Proofs.Ytcngjidojibleaa.CFnExactFeedCapsules
open Go Go.Proofs Go.Proofs.YtcngjidojibleaaPM Go.Proofs.Ytcngjidojibleaa.Q Go.Proofs.Ytcngjidojibleaa.GFnExactFeedCapsules

theorem eqS_ok (l : List ByteArray) (hl : l.length ≤ 2000000) : EvP (fun N => laws_eqStringS N l l) (· = ((true, ()), ())) := by
  refine EvP.of (fun N => laws_eqStringS.eq N _ _) (EvP.nneg rfl (EvP.to (a := .inr ((), ())) ?_ (EvP.some rfl)))
  refine EvP.count (f := fun N i (_ : Unit) => laws_eqStringS.l0 N l l i) (n := l.length) (inv := fun _ _ => True) ?_ ?_ 0 () (by omega) trivial
  · intro i _ hi _ next
    refine EvP.step (fun N => laws_eqStringS.l0.eq N _ _ _) (EvP.pos (by omega) (EvP.chk2 (by omega) (by omega) (EvP.chk2 (by omega) (by omega) (EvP.nneg rfl ?_))))
    rw [show IntKind.i64.wrap ((i : Int) + 1) = ((i + 1 : Nat) : Int) by rw [i64w (by omega) (by omega)]; omega]
    exact next () trivial
  · intro _ _
    exact EvP.step (fun N => laws_eqStringS.l0.eq N _ _ _) (EvP.neg (by omega) (EvP.some rfl))
/-- Marks from a number on. -/
noncomputable def marks (n : Nat) : List ByteArray := (List.range n).map fun i : Nat => markOf (1 + (i : Int))
theorem marks_len (n : Nat) : (marks n).length = n := by simp [marks]
theorem marks_succ (n : Nat) : marks (n + 1) = marks n ++ [markOf (1 + (n : Int))] := by simp [marks, List.range_succ]
theorem markS_ok (l : List ByteArray) (hl : l.length ≤ 2000000) : EvP (fun N => laws_markStringS N 1 l) (· = ((1 + (l.length : Int), ()), (marks l.length, ()))) := by
  refine EvP.of (fun N => laws_markStringS.eq N _ _) (EvP.to (a := ((1 + (l.length : Int), ()), (marks l.length, ()))) ?_ (EvP.some rfl))
  refine EvP.count (f := fun N i (a : Int × List ByteArray) => laws_markStringS.l0 N a.1 i a.2) (n := l.length) (inv := fun i a => a.1 = 1 + (i : Int) ∧ a.2 = marks i ++ l.drop i) ?_ ?_ 0 (1, l) (by omega) ⟨rfl, by simp [marks]⟩
  · rintro i ⟨_, _⟩ hi ⟨rfl, rfl⟩ next
    have hlen : (marks i ++ l.drop i).length = l.length := by rw [List.length_append, marks_len, List.length_drop]; omega
    refine EvP.step (fun N => laws_markStringS.l0.eq N _ _ _) ?_
    rw [hlen]
    refine EvP.pos (by omega) (EvP.to (mark_ok _ (by omega)) (EvP.chk2 (by omega) (by omega) ?_))
    rw [show IntKind.i64.wrap ((i : Int) + 1) = ((i + 1 : Nat) : Int) by rw [i64w (by omega) (by omega)]; omega, i64w (n := 1 + (i : Int) + 1) (by omega) (by omega), Int.toNat_natCast]
    refine next (_, _) ⟨by dsimp only; omega, ?_⟩
    dsimp only
    rw [List.set_append_right _ _ (by rw [marks_len]; exact Nat.le_refl _), marks_len, Nat.sub_self, List.drop_eq_getElem_cons hi, List.set_cons_zero, marks_succ, List.append_assoc]
    rfl
  · rintro ⟨_, _⟩ ⟨rfl, rfl⟩
    refine EvP.step (fun N => laws_markStringS.l0.eq N _ _ _) ?_
    rw [List.drop_length, List.append_nil]
    exact EvP.neg (by rw [marks_len]; omega) (EvP.some rfl)
end Go.Proofs.Ytcngjidojibleaa.CFnExactFeedCapsules
