/- Typed patterns: what is read by them holds as it is written by them; and it holds in another sight of the same world. -/
import Derived.Test.YtcngjidojibleaaPmPat
import Derived.Test.YtcngjidojibleaaPmDraw2
set_option linter.unusedVariables false
set_option linter.unusedSectionVars false
set_option linter.unusedSimpArgs false
namespace Go.Proofs.YtcngjidojibleaaPM
open Go Go.RowKit

section
variable [Foreign] {σ : Sig} {pb : Pb} {w : World} {m : Nat → Nat × Nat}

theorem bbeq {a b : Nat} (h : Nat.beq a b = true) : a = b := Nat.eq_of_beq_eq_true h
theorem bif_some {α : Type} {b : Bool} {x : Option α} {y : α} (h : (bif b then x else none) = some y) : b = true ∧ x = some y := by
  cases b
  · cases h
  · exact ⟨rfl, h⟩

theorem decC_ok : ∀ {c : CK} {ps t : List PV} {x : c.den} {ys : List Value}, decC m c ps = some (x, t) → CRs σ pb w ps ys → ∃ u v, ys = u ++ v ∧ CRs σ pb w (encC m c x) u ∧ CRs σ pb w t v := by
  intro c ps t x ys h hr
  cases c with
  | sh r =>
    obtain ⟨u, v, e, h1, h2⟩ := parse_er h hr
    exact ⟨u, v, e, h1.crs, h2⟩
  | ptr j o =>
    simp only [decC] at h
    split at h
    · rename_i k o' t'
      obtain ⟨h1, h2⟩ := bif_some h
      rw [Bool.and_eq_true] at h1
      have e1 := bbeq h1.1
      have e2 := bbeq h1.2
      cases h2
      cases ys with
      | nil => exact hr.elim
      | cons y ys => exact ⟨[y], ys, rfl, ⟨by rw [← e1, ← e2]; exact hr.1, trivial⟩, hr.2⟩
    · cases h
  | own j =>
    simp only [decC] at h
    split at h
    · rename_i k o' t'
      obtain ⟨h1, h2⟩ := bif_some h
      rw [Bool.and_eq_true] at h1
      have e1 := bbeq h1.1
      have e2 := bbeq h1.2
      cases h2
      cases ys with
      | nil => exact hr.elim
      | cons y ys => exact ⟨[y], ys, rfl, ⟨by rw [← e1, ← e2]; exact hr.1, trivial⟩, hr.2⟩
    · cases h
  | ref j =>
    simp only [decC] at h
    split at h
    · rename_i k i n g t'
      obtain ⟨h1, h2⟩ := bif_some h
      rw [Bool.and_eq_true] at h1
      have e1 := bbeq h1.1
      have e2 := bbeq h1.2
      cases h2
      cases ys with
      | nil => exact hr.elim
      | cons y ys => exact ⟨[y], ys, rfl, ⟨by rw [← e1, ← e2]; exact hr.1, trivial⟩, hr.2⟩
    · cases h
  | rp j off =>
    simp only [decC] at h
    split at h
    · rename_i k i o g t'
      obtain ⟨h1, h2⟩ := bif_some h
      simp only [Bool.and_eq_true] at h1
      have e1 := bbeq h1.1
      have e2 := bbeq h1.2.1
      have e3 := bbeq h1.2.2
      cases h2
      cases ys with
      | nil => exact hr.elim
      | cons y ys => exact ⟨[y], ys, rfl, ⟨by rw [← e1, ← e2, ← e3]; exact hr.1, trivial⟩, hr.2⟩
    · cases h
  | apl j i n =>
    simp only [decC] at h
    split at h
    · rename_i k i' n' g t'
      obtain ⟨h1, h2⟩ := bif_some h
      simp only [Bool.and_eq_true] at h1
      have e1 := bbeq h1.1
      have e2 := bbeq h1.2.1
      have e3 := bbeq h1.2.2.1
      have e4 := bbeq h1.2.2.2
      cases h2
      cases ys with
      | nil => exact hr.elim
      | cons y ys => exact ⟨[y], ys, rfl, ⟨by rw [← e1, ← e2, ← e3, ← e4]; exact hr.1, trivial⟩, hr.2⟩
    · cases h
  | ep r off =>
    simp only [decC] at h
    split at h
    · rename_i r' x' o t'
      obtain ⟨h1, h2⟩ := bif_some h
      have e1 := bbeq h1
      split at h2
      · rename_i e
        subst e
        cases h2
        cases ys with
        | nil => exact hr.elim
        | cons y ys => exact ⟨[y], ys, rfl, ⟨by rw [← e1]; exact hr.1, trivial⟩, hr.2⟩
      · cases h2
    · cases h
  | any =>
    simp only [decC] at h
    split at h
    · cases h
      cases ys with
      | nil => exact hr.elim
      | cons y ys => exact ⟨[y], ys, rfl, ⟨trivial, trivial⟩, hr.2⟩
    · cases h
  | nil =>
    simp only [decC] at h
    split at h
    · cases h
      cases ys with
      | nil => exact hr.elim
      | cons y ys => exact ⟨[y], ys, rfl, ⟨hr.1, trivial⟩, hr.2⟩
    · cases h
theorem decL_ok : ∀ {l : List CK} {ps : List PV} {d : dens l} {ys : List Value}, decL m l ps = some d → CRs σ pb w ps ys → CRs σ pb w (encL m l d) ys := by
  intro l
  induction l with
  | nil =>
    intro ps d ys h hr
    simp only [decL] at h
    split at h
    · exact hr
    · cases h
  | cons c l ih =>
    intro ps d ys h hr
    simp only [decL] at h
    split at h
    · rename_i x t hc
      split at h
      · rename_i d' hd
        cases h
        obtain ⟨u, v, rfl, h1, h2⟩ := decC_ok hc hr
        exact CRs.append h1 (ih hd h2)
      · cases h
    · cases h
theorem CR.ar {p : PV} {y : Value} (h : CR σ pb w p y) : AR σ pb w p y := by
  cases p <;> first | exact h | exact h.elim
theorem AR.cr {p : PV} {y : Value} (hp : cellish p = true) (h : AR σ pb w p y) : CR σ pb w p y := by
  cases p <;> first | exact h | cases hp

theorem decA_ok {a : AK} {p : PV} {x : a.den} {y : Value} (h : decA m a p = some x) (hv : AR σ pb w p y) : AR σ pb w (encA m a x) y := by
  cases a with
  | any => trivial
  | one c =>
    simp only [decA] at h
    obtain ⟨h1, h2⟩ := bif_some h
    split at h2
    · rename_i x' hc
      cases h2
      obtain ⟨u, v, e, k1, k2⟩ := decC_ok hc (show CRs σ pb w [p] [y] from ⟨hv.cr h1, trivial⟩)
      cases v with
      | cons => exact k2.elim
      | nil =>
        simp only [List.append_nil] at e
        subst e
        simp only [encA]
        generalize encC m c x = q at k1
        match q, k1 with
        | [q], k1 => exact k1.1.ar
        | _ :: _ :: _, k1 => exact k1.2.elim
    · cases h2
  | agg l =>
    simp only [decA] at h
    split at h
    · obtain ⟨ys, e, hc⟩ := hv
      exact ⟨ys, e, decL_ok h hc⟩
    · cases h
  | fn f l =>
    simp only [decA] at h
    split at h
    · rename_i g cs
      obtain ⟨h1, h2⟩ := bif_some h
      have e1 := bbeq h1
      subst e1
      obtain ⟨ys, e, hc⟩ := hv
      exact ⟨ys, e, decL_ok h2 hc⟩
    · cases h
  | arr k =>
    simp only [decA] at h
    split at h
    · split at h
      · rename_i e
        subst e
        cases h
        exact hv
      · cases h
    · cases h
theorem decAs_ok : ∀ {l : List AK} {ps : List PV} {d : adens l} {ys : List Value}, decAs m l ps = some d → ARs σ pb w ps ys → ARs σ pb w (encAs m l d) ys := by
  intro l
  induction l with
  | nil =>
    intro ps d ys h hr
    simp only [decAs] at h
    split at h
    · exact hr
    · cases h
  | cons c l ih =>
    intro ps d ys h hr
    simp only [decAs] at h
    split at h
    · rename_i p t
      split at h
      · rename_i x hx
        split at h
        · rename_i d' hd
          cases h
          cases ys with
          | nil => exact hr.elim
          | cons y ys => exact ⟨decA_ok hx hr.1, ih hd hr.2⟩
        · cases h
      · cases h
    · cases h
theorem decP_ok {g : Nat} {p : PK} {q : Place} {x : p.den} {o : Option Nat} (h : decP m g p q = some x) (hv : PlaceR σ pb w q o) : PlaceR σ pb w (encP m g p x) o := by
  cases p with
  | gone => cases o <;> trivial
  | cells l =>
    simp only [decP] at h
    split at h
    · cases o with
      | none => exact hv
      | some b => obtain ⟨c, e, f, h1, h2, h3⟩ := hv; exact ⟨c, e, f, h1, h2, decL_ok h h3⟩
    · cases h
  | rows r kp =>
    simp only [decP] at h
    split at h
    · rename_i r' xs g'
      obtain ⟨h1, h2⟩ := bif_some h
      have e1 := bbeq (Bool.and_eq_true_iff.1 h1).1
      subst e1
      split at h2
      · rename_i e
        subst e
        cases h2
        exact hv
      · cases h2
    · cases h

end

end Go.Proofs.YtcngjidojibleaaPM
