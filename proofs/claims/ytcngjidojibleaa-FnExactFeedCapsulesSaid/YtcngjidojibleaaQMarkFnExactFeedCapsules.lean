/- The laws' marks: a text for each number; what it is does not matter, only that it is told. -/
import Derived.Test.YtcngjidojibleaaQStr
import Derived.Test.YtcngjidojibleaaGFnExactFeedCapsulesx0
set_option linter.unusedVariables false
set_option linter.unusedSimpArgs false
namespace Go.Proofs.Ytcngjidojibleaa.CFnExactFeedCapsules
open Go Go.Proofs Go.Proofs.YtcngjidojibleaaPM Go.Proofs.Ytcngjidojibleaa.Q Go.Proofs.Ytcngjidojibleaa.GFnExactFeedCapsules

theorem mark_l0 (m : Nat) : ∀ (x : Int) (s : ByteArray), x.toNat ≤ m → 0 ≤ x → x + s.size ≤ 4611686018427387904 → ∃ r : ByteArray, (r.size : Int) ≤ x + s.size ∧ EvP (fun k => laws_markText.l0 k x s) (· = ((r, ()), ())) := by
  induction m with
  | zero =>
    intro x s h0 h1 h2
    exact ⟨s, by omega, EvP.step (fun k => laws_markText.l0.eq k _ _) (EvP.neg (by omega) (EvP.some rfl))⟩
  | succ m ih =>
    intro x s h0 h1 h2
    by_cases hx : x > 0
    · have hd : Int.tdiv x 10 = x / 10 := Int.tdiv_eq_ediv_of_nonneg h1
      have hz : (strL [IntKind.u8.wrap (IntKind.i64.wrap (48 + Int.tmod x 10))]).size = 1 := strL_size _
      obtain ⟨r, h3, hr⟩ := ih (x / 10) (strL [IntKind.u8.wrap (IntKind.i64.wrap (48 + Int.tmod x 10))] ++ s) (by omega) (by omega) (by rw [ByteArray.size_append, hz]; omega)
      refine ⟨r, by rw [ByteArray.size_append, hz] at h3; omega, EvP.step (fun k => laws_markText.l0.eq k _ _) (EvP.pos hx (EvP.chk1 (by rw [hz]; omega) ?_))⟩
      rw [hd, i64w (n := x / 10) (by omega) (by omega)]
      exact hr
    · exact ⟨s, by omega, EvP.step (fun k => laws_markText.l0.eq k _ _) (EvP.neg hx (EvP.some rfl))⟩
theorem mark_ex (n : Int) : ∃ r : ByteArray, n ≤ 4611686018427387903 → EvP (fun k => laws_markText k n) (· = ((r, ()), ())) := by
  by_cases h : n ≤ 0
  · exact ⟨⟨#[109, 48]⟩, fun _ => EvP.of (fun k => laws_markText.eq k _) (EvP.pos h (EvP.some rfl))⟩
  · by_cases hn : n ≤ 4611686018427387903
    · obtain ⟨r, h3, hr⟩ := mark_l0 n.toNat n (⟨#[]⟩ : ByteArray) (Nat.le_refl _) (by omega) (by rw [size_nil]; omega)
      rw [size_nil] at h3
      exact ⟨_, fun _ => EvP.of (fun k => laws_markText.eq k _) (EvP.neg h (EvP.to hr (EvP.chk1 (by dsimp only; omega) (EvP.some rfl))))⟩
    · exact ⟨⟨#[]⟩, fun h => absurd h hn⟩
/-- The text of a number. -/
noncomputable def markOf (n : Int) : ByteArray := Classical.choose (mark_ex n)
theorem mark_ok (n : Int) (h : n ≤ 4611686018427387903) : EvP (fun k => laws_markText k n) (· = ((markOf n, ()), ())) := Classical.choose_spec (mark_ex n) h
end Go.Proofs.Ytcngjidojibleaa.CFnExactFeedCapsules
