/- The capsules that are known: no more than there were. -/
import Derived.Test.YtdmnpmhdindabaaQCapPutFnCapsules
set_option linter.unusedVariables false
set_option linter.unusedSimpArgs false
namespace Go.Proofs.Ytdmnpmhdindabaa.CFnCapsules
open Go Go.Proofs Go.Proofs.YtdmnpmhdindabaaPM Go.Proofs.Ytdmnpmhdindabaa.Q Go.Proofs.Ytdmnpmhdindabaa.GFnCapsules

theorem index2_ok (l : List (Int × ByteArray)) (hl : l.length ≤ 1000000) : EvP (fun N => slices_IndexFuncimpl_Capsule_impl_Capsule_2 N l) (fun r => r.1.1 = -1 ∨ 0 ≤ r.1.1 ∧ r.1.1 < (l.length : Int)) := by
  refine EvP.of (fun N => slices_IndexFuncimpl_Capsule_impl_Capsule_2.eq N _) ?_
  refine EvP.andK (Q := fun r => ∀ x, r = .inl x → 0 ≤ x.1.1 ∧ x.1.1 < (l.length : Int)) ?_ ?_
  · refine EvP.count (f := fun N i (_ : Unit) => slices_IndexFuncimpl_Capsule_impl_Capsule_2.l0 N l (l.length : Int) i) (n := l.length) (inv := fun i _ => True) ?_ ?_ 0 () (by omega) trivial
    · intro i _ hi _ next
      refine EvP.step (fun N => slices_IndexFuncimpl_Capsule_impl_Capsule_2.l0.eq N _ _ _) (EvP.pos (by omega) (EvP.chk2 (by omega) (by omega) ?_))
      refine EvP.to (EvP.of (fun N => impl_KnownCapsules_1.eq N _ _) (EvP.to (in_impl _ _ _) (EvP.some rfl))) ?_
      refine EvP.sel (fun h => EvP.some fun x e => ?_) (fun h => ?_)
      · cases e; dsimp only; omega
      · rw [show IntKind.i64.wrap ((i : Int) + 1) = ((i + 1 : Nat) : Int) by rw [i64w (by omega) (by omega)]; omega]
        exact next () trivial
    · intro _ _
      exact EvP.step (fun N => slices_IndexFuncimpl_Capsule_impl_Capsule_2.l0.eq N _ _ _) (EvP.neg (by omega) (EvP.some fun x e => (by cases e)))
  · intro r h1
    exact EvP.or (fun x e => EvP.some (.inr (h1 x e))) (fun x e => EvP.some (.inl rfl))
theorem delete_ok (l : List (Int × ByteArray)) (hl : l.length ≤ 1000000) : EvP (fun N => slices_DeleteFuncimpl_Capsule_impl_Capsule N l) (fun r => r.2.1.length ≤ l.length) := by
  refine EvP.of (fun N => slices_DeleteFuncimpl_Capsule_impl_Capsule.eq N _) (EvP.andK (index2_ok l hl) ?_)
  intro u hu
  refine EvP.ite (fun h => EvP.some (Nat.le_refl _)) (fun h => ?_)
  obtain ⟨u0, u1⟩ := hu.resolve_left h
  rw [i64w (n := u.1.1 + 1) (by omega) (by omega)]
  refine EvP.andK (Q := fun r => 0 ≤ r.1.2.1 ∧ r.1.2.1 ≤ (l.length : Int) ∧ r.2.1.length = l.length) ?_ ?_
  · obtain ⟨j, hj⟩ := Int.eq_ofNat_of_zero_le (show 0 ≤ u.1.1 + 1 by omega)
    rw [hj]
    refine EvP.count (f := fun N j (a : Int × List (Int × ByteArray)) => slices_DeleteFuncimpl_Capsule_impl_Capsule.l0 N a.1 j a.2) (n := l.length) (inv := fun j a => 0 ≤ a.1 ∧ a.1 < (j : Int) + 1 ∧ a.1 ≤ (l.length : Int) ∧ a.2.length = l.length) ?_ ?_ j (u.1.1, l) (by omega) ⟨u0, by (try dsimp only); omega, by (try dsimp only); omega, rfl⟩
    · rintro j ⟨i, p⟩ hj2 ⟨a1, a2, a4, a3⟩ next
      dsimp only at a1 a2 a3 a4
      refine EvP.step (fun N => slices_DeleteFuncimpl_Capsule_impl_Capsule.l0.eq N _ _ _) (EvP.pos (by (try dsimp only); omega) ?_)
      refine EvP.andK (Q := fun r => 0 ≤ r.1.2.1 ∧ r.1.2.1 < ((j + 1 : Nat) : Int) + 1 ∧ r.1.2.1 ≤ (l.length : Int) ∧ r.2.1.length = l.length) ?_ ?_
      · refine EvP.chk2 (by (try dsimp only); omega) (by (try dsimp only); omega) ?_
        refine EvP.to (EvP.of (fun N => impl_KnownCapsules_1.eq N _ _) (EvP.to (in_impl _ _ _) (EvP.some rfl))) ?_
        refine EvP.sel (fun h => ?_) (fun h => EvP.some ⟨a1, by (try dsimp only); omega, a4, a3⟩)
        by_cases hij : i < (l.length : Int)
        · refine EvP.chk2 (by (try dsimp only); omega) (by (try dsimp only); omega) (EvP.some ⟨?_, ?_, ?_, ?_⟩)
          · dsimp only; rw [i64w (by omega) (by omega)]; omega
          · dsimp only; rw [i64w (by omega) (by omega)]; omega
          · dsimp only; rw [i64w (by omega) (by omega)]; omega
          · dsimp only; rw [List.length_set]; exact a3
        · omega
      · rintro r ⟨b1, b2, b4, b3⟩
        rw [show IntKind.i64.wrap ((j : Int) + 1) = ((j + 1 : Nat) : Int) by rw [i64w (by omega) (by omega)]; omega]
        exact next (r.1.2.1, r.2.1) ⟨b1, b2, b4, b3⟩
    · rintro ⟨i, p⟩ ⟨a1, a2, a4, a3⟩
      dsimp only at a1 a2 a3 a4
      exact EvP.step (fun N => slices_DeleteFuncimpl_Capsule_impl_Capsule.l0.eq N _ _ _) (EvP.neg (by (try dsimp only); omega) (EvP.some ⟨a1, a4, a3⟩))
  · rintro r ⟨b1, b2, b3⟩
    refine EvP.chk3 b1 (by omega) (Int.le_refl _) (EvP.chk2 b1 ?_ (EvP.some ?_))
    · simp only [List.length_append, List.length_take, List.length_replicate, List.length_drop]
      omega
    · simp only [List.length_take, List.length_append, List.length_replicate, List.length_drop]
      omega
theorem known_ok (l : List (Int × ByteArray)) (hl : l.length ≤ 1000000) : EvP (fun N => impl_KnownCapsules N l) (fun r => r.1.2.1 = decide (CapsOk l) ∧ r.2.1.length ≤ l.length) := by
  refine EvP.of (fun N => impl_KnownCapsules.eq N _) (EvP.to (ok_impl l hl) ?_)
  refine EvP.selnb rfl (fun h => EvP.some ⟨(decide_eq_false h).symm, Nat.zero_le _⟩) (fun h => ?_)
  refine EvP.to (a := (((), ()), (l, ()))) (EvP.of (fun N => slices_Cloneimpl_Capsule_impl_Capsule.eq N _) (EvP.chk1 (show _ < (68719476736 : Nat) by omega) (EvP.some rfl))) ?_
  refine EvP.andK (delete_ok l hl) fun r hr => EvP.some ⟨(decide_eq_true h).symm, hr⟩
end Go.Proofs.Ytdmnpmhdindabaa.CFnCapsules
