/- Rows of capsules: told alike, marked, and held. -/
import Derived.Test.YtcngjidojibleaaQMarkFnExactFeedCapsules
set_option linter.unusedVariables false
set_option linter.unusedSimpArgs false
namespace Go.Proofs.Ytcngjidojibleaa.CFnExactFeedCapsules
open Go Go.Proofs Go.Proofs.YtcngjidojibleaaPM Go.Proofs.Ytcngjidojibleaa.Q Go.Proofs.Ytcngjidojibleaa.GFnExactFeedCapsules

theorem eqCap_self (a : Int) (s : ByteArray) : EvP (fun N => laws_eqCapsule N a s a s) (· = ((true, ()), ())) := EvP.of (fun N => laws_eqCapsule.eq N _ _ _ _) (EvP.nneg rfl (EvP.nneg rfl (EvP.some rfl)))
theorem eqCaps_self (l : List (Int × ByteArray)) (hl : l.length ≤ 1000000) : EvP (fun N => laws_eqCapsuleS N l l) (· = ((true, ()), ())) := by
  refine EvP.of (fun N => laws_eqCapsuleS.eq N _ _) (EvP.nneg rfl (EvP.to (a := .inr ((), ())) ?_ (EvP.some rfl)))
  refine EvP.count (f := fun N i (_ : Unit) => laws_eqCapsuleS.l0 N l l i) (n := l.length) (inv := fun _ _ => True) ?_ ?_ 0 () (by omega) trivial
  · intro i _ hi _ next
    refine EvP.step (fun N => laws_eqCapsuleS.l0.eq N _ _ _) (EvP.pos (by omega) (EvP.chk2 (by omega) (by omega) (EvP.chk2 (by omega) (by omega) (EvP.to (eqCap_self _ _) (EvP.no rfl ?_)))))
    rw [show IntKind.i64.wrap ((i : Int) + 1) = ((i + 1 : Nat) : Int) by rw [i64w (by omega) (by omega)]; omega]
    exact next () trivial
  · intro _ _
    exact EvP.step (fun N => laws_eqCapsuleS.l0.eq N _ _ _) (EvP.neg (by omega) (EvP.some rfl))
/-- What the marks are. -/
noncomputable def marksC (n : Nat) : List (Int × ByteArray) := (List.range n).map fun (i : Nat) => (1 + 2 * (i : Int), markOf (2 + 2 * (i : Int)))
theorem marksC_len (n : Nat) : (marksC n).length = n := by simp [marksC]
theorem marksC_succ (n : Nat) : marksC (n + 1) = marksC n ++ [(1 + 2 * (n : Int), markOf (2 + 2 * (n : Int)))] := by simp [marksC, List.range_succ]
theorem rdC {l : List (Int × ByteArray)} {i : Nat} (h : i < l.length) : rdS (.pair (.int .i64) .str) l i = l[i] := by
  show l.getD i _ = _
  rw [List.getD_eq_getElem?_getD, List.getElem?_eq_getElem h]
  rfl
theorem markC_ok (l : List (Int × ByteArray)) (hl : l.length ≤ 1000000) : EvP (fun N => laws_markCapsuleS N 1 l) (· = ((1 + 2 * (l.length : Int), ()), (marksC l.length, ()))) := by
  refine EvP.of (fun N => laws_markCapsuleS.eq N _ _) (EvP.to (a := ((1 + 2 * (l.length : Int), ()), (marksC l.length, ()))) ?_ (EvP.some rfl))
  refine EvP.count (f := fun N i (a : Int × List (Int × ByteArray)) => laws_markCapsuleS.l0 N a.1 i a.2) (n := l.length) (inv := fun i a => a.1 = 1 + 2 * (i : Int) ∧ a.2 = marksC i ++ l.drop i) ?_ ?_ 0 (1, l) (by omega) ⟨rfl, by simp [marksC]⟩
  · rintro i ⟨_, _⟩ hi ⟨rfl, rfl⟩ next
    have hlen : (marksC i ++ l.drop i).length = l.length := by rw [List.length_append, marksC_len, List.length_drop]; omega
    refine EvP.step (fun N => laws_markCapsuleS.l0.eq N _ _ _) ?_
    rw [hlen]
    refine EvP.pos (by omega) (EvP.chk2 (by omega) (by omega) ?_)
    rw [Int.toNat_natCast, i64w (n := 1 + 2 * (i : Int) + 1) (by omega) (by omega)]
    refine EvP.to (mark_ok _ (by omega)) ?_
    dsimp only
    rw [List.length_set, hlen]
    refine EvP.chk2 (by omega) (by omega) ?_
    rw [rdC (i := i) (l := (marksC i ++ l.drop i).set i _) (by rw [List.length_set, hlen]; exact hi), List.getElem_set_self, List.set_set, i64w (n := 1 + 2 * (i : Int) + 1 + 1) (by omega) (by omega)]
    rw [show IntKind.i64.wrap ((i : Int) + 1) = ((i + 1 : Nat) : Int) by rw [i64w (by omega) (by omega)]; omega]
    refine next (_, _) ⟨by dsimp only; omega, ?_⟩
    dsimp only
    rw [marksC_succ, List.set_append, if_neg (by rw [marksC_len]; omega), marksC_len, Nat.sub_self, List.append_assoc]
    congr 1
    rw [List.drop_eq_getElem_cons hi, List.set_cons_zero, show 1 + 2 * (i : Int) + 1 = 2 + 2 * (i : Int) by omega]
    rfl
  · rintro ⟨_, _⟩ ⟨rfl, rfl⟩
    refine EvP.step (fun N => laws_markCapsuleS.l0.eq N _ _ _) ?_
    rw [List.drop_length, List.append_nil, marksC_len]
    exact EvP.neg (by omega) (EvP.some rfl)
theorem heldC_ok (n : Nat) (hn : n ≤ 1000000) : EvP (fun N => laws_heldCapsuleS N (marksC n) 1) (· = ((1 + 2 * (n : Int), ()), ())) := by
  refine EvP.of (fun N => laws_heldCapsuleS.eq N _ _) (EvP.to (a := .inr ((1 + 2 * (n : Int), ()), ())) ?_ (EvP.some rfl))
  refine EvP.count (f := fun N i (a : Int) => laws_heldCapsuleS.l0 N (marksC n) a i) (n := n) (inv := fun i a => a = 1 + 2 * (i : Int)) ?_ ?_ 0 1 (by omega) rfl
  · rintro i _ hi rfl next
    refine EvP.step (fun N => laws_heldCapsuleS.l0.eq N _ _ _) ?_
    rw [marksC_len]
    have hg : rdS (.pair (.int .i64) .str) (marksC n) i = (1 + 2 * (i : Int), markOf (2 + 2 * (i : Int))) := by
      rw [rdC (by rw [marksC_len]; exact hi)]
      simp [marksC]
    rw [Int.toNat_natCast, hg]
    refine EvP.pos (by omega) (EvP.chk2 (by omega) (by omega) (EvP.nneg rfl (EvP.chk2 (by omega) (by omega) ?_)))
    rw [i64w (n := 1 + 2 * (i : Int) + 1) (by omega) (by omega)]
    refine EvP.to (mark_ok _ (by omega)) (EvP.nneg ?_ ?_)
    · rw [show 1 + 2 * (i : Int) + 1 = 2 + 2 * (i : Int) by omega]
    · rw [i64w (n := 1 + 2 * (i : Int) + 1 + 1) (by omega) (by omega), show IntKind.i64.wrap ((i : Int) + 1) = ((i + 1 : Nat) : Int) by rw [i64w (by omega) (by omega)]; omega]
      exact next _ (by omega)
  · rintro _ rfl
    refine EvP.step (fun N => laws_heldCapsuleS.l0.eq N _ _ _) ?_
    rw [marksC_len]
    exact EvP.neg (by omega) (EvP.some rfl)
end Go.Proofs.Ytcngjidojibleaa.CFnExactFeedCapsules
