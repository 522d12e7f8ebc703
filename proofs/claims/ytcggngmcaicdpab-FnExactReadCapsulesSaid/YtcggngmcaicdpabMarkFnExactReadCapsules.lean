/- The laws' marks: a text for each number; what it is does not matter, only that it is told. -/
import Derived.Test.YtcggngmcaicdpabStr
import Derived.Test.YtcggngmcaicdpabPFnExactReadCapsulesx0
import Derived.Test.YtcggngmcaicdpabPFnExactReadCapsulesx1
import Derived.Test.YtcggngmcaicdpabPFnExactReadCapsulesx2
import Derived.Test.YtcggngmcaicdpabPFnExactReadCapsulesx3
set_option linter.unusedVariables false
set_option linter.unusedSimpArgs false
namespace Go.Proofs.Ytcggngmcaicdpab.CFnExactReadCapsules
open Go.RowKit Go.Proofs.Ytcggngmcaicdpab.B Go.Proofs.Ytcggngmcaicdpab.PFnExactReadCapsules Go.Proofs.YtcggngmcaicdpabW.PrintWords Go.Proofs.YtcggngmcaicdpabW.PrintLast Go.Proofs.YtcggngmcaicdpabW.PrintMore

theorem mark_l0 (m : Nat) : ∀ (x : Int) (s : ByteArray), x.toNat ≤ m → 0 ≤ x → x + s.size ≤ 4611686018427387904 → ∃ r, EvP (fun k => laws_markText.l0 k x s) (· = r) := by
  induction m with
  | zero =>
    intro x s h0 h1 h2
    refine ⟨(⟨#[109]⟩ : ByteArray) ++ s, EvP.step (fun k => by rw [laws_markText.l0]) ?_⟩
    exact EvP.neg (by omega) (EvP.pos (by omega) (EvP.some rfl))
  | succ m ih =>
    intro x s h0 h1 h2
    by_cases hx : x > 0
    · have hd : Int.tdiv x 10 = x / 10 := Int.tdiv_eq_ediv_of_nonneg h1
      have hz : (strOfNums [wrap64 (48 + Int.tmod x 10) % 256]).size = 1 := by rw [strOfNums_size]; rfl
      obtain ⟨r, hr⟩ := ih (x / 10) (strOfNums [wrap64 (48 + Int.tmod x 10) % 256] ++ s) (by omega) (by omega) (by rw [ByteArray.size_append, hz]; omega)
      refine ⟨r, EvP.step (fun k => by rw [laws_markText.l0]) ?_⟩
      refine EvP.pos hx ?_
      simp only [Option.bind_some]
      refine EvP.pos (by rw [hz]; omega) ?_
      rw [hd, w64 (n := x / 10) (by omega) (by omega)]
      exact hr
    · refine ⟨(⟨#[109]⟩ : ByteArray) ++ s, EvP.step (fun k => by rw [laws_markText.l0]) ?_⟩
      exact EvP.neg hx (EvP.pos (by omega) (EvP.some rfl))
theorem mark_ex (n : Int) : ∃ r, n ≤ 4611686018427387904 → EvP (fun k => laws_markText.f k n) (· = r) := by
  by_cases h : n ≤ 0
  · refine ⟨⟨#[109, 48]⟩, fun _ => ?_⟩
    simp only [laws_markText.f]
    exact EvP.pos h (EvP.some rfl)
  · by_cases hn : n ≤ 4611686018427387904
    · obtain ⟨r, hr⟩ := mark_l0 n.toNat n (⟨#[]⟩ : ByteArray) (Nat.le_refl _) (by omega) (by rw [size_nil]; omega)
      refine ⟨r, fun _ => ?_⟩
      simp only [laws_markText.f]
      exact EvP.neg h hr
    · exact ⟨⟨#[]⟩, fun h => absurd h hn⟩
/-- The text of a number. -/
noncomputable def markOf (n : Int) : ByteArray := Classical.choose (mark_ex n)
theorem mark_ok (n : Int) (h : n ≤ 4611686018427387904) : EvP (fun k => laws_markText.f k n) (· = markOf n) := Classical.choose_spec (mark_ex n) h
theorem drop_getD {α : Type} {l : List α} {i : Nat} {z a : α} {r : List α} (h : l.drop i = a :: r) : l.getD i z = a ∧ l.drop (i + 1) = r ∧ i < l.length := by
  have hl : i < l.length := by
    rcases Nat.lt_or_ge i l.length with h' | h'
    · exact h'
    · rw [List.drop_eq_nil_of_le h'] at h; cases h
  rw [List.drop_eq_getElem_cons hl] at h
  injection h with h1 h2
  exact ⟨by rw [List.getD_eq_getElem?_getD, List.getElem?_eq_getElem hl]; exact h1, h2, hl⟩
end Go.Proofs.Ytcggngmcaicdpab.CFnExactReadCapsules
