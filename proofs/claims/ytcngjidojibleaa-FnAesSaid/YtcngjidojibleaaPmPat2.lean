/- The same world, seen with other places. -/
import Derived.Test.YtcngjidojibleaaPmPat1
set_option linter.unusedVariables false
set_option linter.unusedSectionVars false
set_option linter.unusedSimpArgs false
namespace Go.Proofs.YtcngjidojibleaaPM
open Go Go.RowKit

theorem parse_cells : ∀ {r : Sh} {x : r.den} {t : List PV}, r.parse (r.cells x ++ t) = some (x, t) := by
  intro r
  induction r with
  | int k => intro x t; simp [Sh.cells, Sh.parse]
  | bool => intro x t; simp [Sh.cells, Sh.parse]
  | str => intro x t; simp [Sh.cells, Sh.parse]
  | rows r _ => intro x t; simp [Sh.cells, Sh.parse]
  | unit => intro x t; simp [Sh.cells, Sh.parse]
  | pair a b iha ihb => intro x t; simp [Sh.cells, Sh.parse, iha, ihb]

theorem RowsR.move {φ1 φ2 : Foreign} {pb1 pb2 : Pb} {w : World} (k : ∀ b, @Im φ1 pb1 w b → @Im φ2 pb2 w b) {n : Nat} {α : Type} {E E' : α → List Value → Prop} (hE : ∀ x vs, E x vs → E' x vs) {xs : List α} {a : Option Addr}
    (h : @RowsR φ1 pb1 w n α E xs a) : @RowsR φ2 pb2 w n α E' xs a := by
  intro i hi
  obtain ⟨b, o, vs, ha, hb, hl, hc, he⟩ := h i hi
  exact ⟨b, o, vs, ha, k b hb, hl, hc, hE _ _ he⟩
theorem ER.move {φ1 φ2 : Foreign} {pb1 pb2 : Pb} {w : World} (k : ∀ b, @Im φ1 pb1 w b → @Im φ2 pb2 w b) : ∀ {r : Sh} {x : r.den} {vs : List Value}, @ER φ1 pb1 w r x vs → @ER φ2 pb2 w r x vs := by
  intro r
  induction r with
  | int _ => exact fun h => h
  | bool => exact fun h => h
  | str => exact fun h => h
  | unit => exact fun h => h
  | rows r ih => rintro x vs ⟨a, c, h, hl, hr⟩; exact ⟨a, c, h, hl, hr.move k fun _ _ => ih⟩
  | pair a b iha ihb => rintro x vs ⟨u, v, h, hu, hv⟩; exact ⟨u, v, h, iha hu, ihb hv⟩

theorem CRs.split [Foreign] {σ : Sig} {pb : Pb} {w : World} : ∀ {ps qs : List PV} {ys : List Value}, CRs σ pb w (ps ++ qs) ys → ∃ u v, ys = u ++ v ∧ CRs σ pb w ps u ∧ CRs σ pb w qs v
  | [], qs, ys, h => ⟨[], ys, rfl, trivial, h⟩
  | p :: ps, qs, [], h => h.elim
  | p :: ps, qs, y :: ys, h => by
    obtain ⟨u, v, e, h1, h2⟩ := CRs.split (ps := ps) h.2
    exact ⟨y :: u, v, by rw [e]; rfl, ⟨h.1, h1⟩, h2⟩

/-- How one sight of a world stands to another: slots below n. -/
structure Slots (φ1 φ2 : Foreign) (n : Nat) (σ1 : Sig) (pb1 : Pb) (m1 : Nat → Nat × Nat) (σ2 : Sig) (pb2 : Pb) (m2 : Nat → Nat × Nat) (w : World) : Prop where
  im : ∀ b, @Im φ1 pb1 w b → @Im φ2 pb2 w b
  lt : ∀ j, j < n → (m2 j).1 < σ2.length
  cel : ∀ j, j < n → ∀ cs2, σ2[(m2 j).1]? = some (.cells cs2) → (∃ cs1, σ1[(m1 j).1]? = some (.cells cs1)) ∧ pb2[(m2 j).1]? = pb1[(m1 j).1]?
  rws : ∀ j, j < n → ∀ r xs g, σ2[(m2 j).1]? = some (.rows r xs g) → g = (m2 j).2 ∧ σ1[(m1 j).1]? = some (.rows r xs (m1 j).2) ∧ pb2[(m2 j).1]? = pb1[(m1 j).1]?

section
variable {φ1 φ2 : Foreign} {n : Nat} {σ1 : Sig} {pb1 : Pb} {m1 : Nat → Nat × Nat} {σ2 : Sig} {pb2 : Pb} {m2 : Nat → Nat × Nat} {w : World}

theorem nil_move {ys : List Value} (h : @CRs φ1 σ1 pb1 w [] ys) : @CRs φ2 σ2 pb2 w [] ys := by
  cases ys with
  | nil => exact trivial
  | cons => exact h.elim
theorem Slots.encC (s : Slots φ1 φ2 n σ1 pb1 m1 σ2 pb2 m2 w) {c : CK} (hc : okC n c = true) {x : c.den} {ys : List Value} (h : @CRs φ1 σ1 pb1 w (encC m1 c x) ys) : @CRs φ2 σ2 pb2 w (encC m2 c x) ys := by
  cases c with
  | sh r =>
    obtain ⟨u, v, e, h1, h2⟩ := @parse_er φ1 σ1 pb1 w r _ [] x ys (by have := @parse_cells r x []; rwa [List.append_nil] at this) h
    cases v with
    | nil =>
      simp only [List.append_nil] at e
      subst e
      exact @ER.crs φ2 σ2 pb2 w r x ys (h1.move s.im)
    | cons => exact h2.elim
  | any => cases ys with
    | nil => exact h.elim
    | cons y ys => exact ⟨trivial, nil_move h.2⟩
  | nil => cases ys with
    | nil => exact h.elim
    | cons y ys => exact ⟨h.1, nil_move h.2⟩
  | ptr j o =>
    have hj : j < n := by simpa [okC, Nat.blt_eq] using hc
    cases ys with
    | nil => exact h.elim
    | cons y ys =>
      obtain ⟨hk, b, hy, hcs⟩ := h.1
      refine ⟨⟨s.lt j hj, b, hy, fun cs hcs2 => ?_⟩, nil_move h.2⟩
      obtain ⟨⟨cs1, e1⟩, e2⟩ := s.cel j hj cs hcs2
      rw [e2]
      exact hcs cs1 e1
  | own j =>
    have hj : j < n := by simpa [okC, Nat.blt_eq] using hc
    cases ys with
    | nil => exact h.elim
    | cons y ys =>
      obtain ⟨hk, hcs⟩ := h.1
      refine ⟨⟨s.lt j hj, fun r xs g hr => ?_⟩, nil_move h.2⟩
      obtain ⟨e0, e1, e2⟩ := s.rws j hj r xs g hr
      rw [e2]
      exact ⟨Nat.le_of_eq e0.symm, fun _ => (hcs r xs _ e1).2 rfl⟩
  | ref j =>
    have hj : j < n := by simpa [okC, Nat.blt_eq] using hc
    cases ys with
    | nil => exact h.elim
    | cons y ys =>
      obtain ⟨hk, hcs⟩ := h.1
      refine ⟨⟨s.lt j hj, fun r xs g hr => ?_⟩, nil_move h.2⟩
      obtain ⟨e0, e1, e2⟩ := s.rws j hj r xs g hr
      rw [e2]
      exact ⟨Nat.le_of_eq e0.symm, fun _ => (hcs r xs _ e1).2 rfl⟩
  | rp j off =>
    have hj : j < n := by simpa [okC, Nat.blt_eq] using hc
    cases ys with
    | nil => exact h.elim
    | cons y ys =>
      obtain ⟨hk, b, o, hy, hcs⟩ := h.1
      refine ⟨⟨s.lt j hj, b, o, hy, fun r xs g hr => ?_⟩, nil_move h.2⟩
      obtain ⟨e0, e1, e2⟩ := s.rws j hj r xs g hr
      rw [e2]
      exact ⟨Nat.le_of_eq e0.symm, fun _ => (hcs r xs _ e1).2 rfl⟩
  | apl j i m =>
    have hj : j < n := by simpa [okC, Nat.blt_eq] using hc
    cases ys with
    | nil => exact h.elim
    | cons y ys =>
      obtain ⟨hk, b, o, hy, hcs⟩ := h.1
      refine ⟨⟨s.lt j hj, b, o, hy, fun r xs g hr => ?_⟩, nil_move h.2⟩
      obtain ⟨e0, e1, e2⟩ := s.rws j hj r xs g hr
      rw [e2]
      exact ⟨Nat.le_of_eq e0.symm, fun _ => (hcs r xs _ e1).2 rfl⟩
  | ep r off =>
    cases ys with
    | nil => exact h.elim
    | cons y ys =>
      obtain ⟨b, o, vs, h1, h2, h3, h4, h5⟩ := h.1
      exact ⟨⟨b, o, vs, h1, s.im b h2, h3, h4, h5.move s.im⟩, nil_move h.2⟩
theorem Slots.encL (s : Slots φ1 φ2 n σ1 pb1 m1 σ2 pb2 m2 w) : ∀ {l : List CK} (hc : okL n l = true) {x : dens l} {ys : List Value} (h : @CRs φ1 σ1 pb1 w (encL m1 l x) ys), @CRs φ2 σ2 pb2 w (encL m2 l x) ys := by
  intro l
  induction l with
  | nil => intro hc x ys h; cases ys with
    | nil => exact trivial
    | cons => exact h.elim
  | cons c l ih =>
    intro hc x ys h
    simp only [okL, Bool.and_eq_true] at hc
    obtain ⟨u, v, rfl, h1, h2⟩ := @CRs.split φ1 _ _ _ _ _ _ h
    exact @CRs.append φ2 _ _ _ _ _ _ _ (s.encC hc.1 h1) (ih hc.2 h2)

theorem cells_cellish : ∀ {r : Sh} {x : r.den}, ∀ q ∈ r.cells x, cellish q = true := by
  intro r
  induction r with
  | int k => intro x q hq; simp only [Sh.cells, List.mem_singleton] at hq; subst hq; rfl
  | bool => intro x q hq; simp only [Sh.cells, List.mem_singleton] at hq; subst hq; rfl
  | str => intro x q hq; simp only [Sh.cells, List.mem_singleton] at hq; subst hq; rfl
  | rows r _ => intro x q hq; simp only [Sh.cells, List.mem_singleton] at hq; subst hq; rfl
  | unit => intro x q hq; simp [Sh.cells] at hq
  | pair a b iha ihb =>
    intro x q hq
    simp only [Sh.cells, List.mem_append] at hq
    rcases hq with h | h
    · exact iha q h
    · exact ihb q h
theorem encC_cellish {m : Nat → Nat × Nat} {c : CK} {x : c.den} : ∀ q ∈ Go.Proofs.YtcngjidojibleaaPM.encC m c x, cellish q = true := by
  intro q hq
  cases c with
  | sh r => exact cells_cellish q hq
  | ptr j o => simp only [Go.Proofs.YtcngjidojibleaaPM.encC, List.mem_singleton] at hq; subst hq; rfl
  | own j => simp only [Go.Proofs.YtcngjidojibleaaPM.encC, List.mem_singleton] at hq; subst hq; rfl
  | ref j => simp only [Go.Proofs.YtcngjidojibleaaPM.encC, List.mem_singleton] at hq; subst hq; rfl
  | rp j o => simp only [Go.Proofs.YtcngjidojibleaaPM.encC, List.mem_singleton] at hq; subst hq; rfl
  | apl j i n => simp only [Go.Proofs.YtcngjidojibleaaPM.encC, List.mem_singleton] at hq; subst hq; rfl
  | ep r o => simp only [Go.Proofs.YtcngjidojibleaaPM.encC, List.mem_singleton] at hq; subst hq; rfl
  | any => simp only [Go.Proofs.YtcngjidojibleaaPM.encC, List.mem_singleton] at hq; subst hq; rfl
  | nil => simp only [Go.Proofs.YtcngjidojibleaaPM.encC, List.mem_singleton] at hq; subst hq; rfl
theorem encC_len {m m' : Nat → Nat × Nat} {c : CK} {x : c.den} : (Go.Proofs.YtcngjidojibleaaPM.encC m c x).length = (Go.Proofs.YtcngjidojibleaaPM.encC m' c x).length := by
  cases c <;> rfl

theorem Slots.encA (s : Slots φ1 φ2 n σ1 pb1 m1 σ2 pb2 m2 w) {a : AK} (hc : okA n a = true) {x : a.den} {y : Value} (h : @AR φ1 σ1 pb1 w (encA m1 a x) y) : @AR φ2 σ2 pb2 w (encA m2 a x) y := by
  cases a with
  | any => exact trivial
  | arr k => exact h
  | agg l => obtain ⟨ys, e, h⟩ := h; exact ⟨ys, e, s.encL hc h⟩
  | fn f l => obtain ⟨ys, e, h⟩ := h; exact ⟨ys, e, s.encL hc h⟩
  | one c =>
    simp only [Go.Proofs.YtcngjidojibleaaPM.encA] at h ⊢
    have hl := @encC_len m1 m2 c x
    have hce := @encC_cellish m1 c x
    have hmv := fun ys => @Slots.encC φ1 φ2 n σ1 pb1 m1 σ2 pb2 m2 w s c hc x ys
    generalize Go.Proofs.YtcngjidojibleaaPM.encC m1 c x = q1 at h hl hce hmv
    generalize Go.Proofs.YtcngjidojibleaaPM.encC m2 c x = q2 at hl hmv ⊢
    match q1, q2, hl with
    | [], [], _ => exact trivial
    | [p], [q], _ =>
      have h1 := @AR.cr φ1 _ _ _ _ _ (hce p (List.mem_singleton.2 rfl)) h
      exact @CR.ar φ2 _ _ _ _ _ (hmv [y] ⟨h1, trivial⟩).1
    | _ :: _ :: _, _ :: _ :: _, _ => exact trivial
theorem Slots.encAs (s : Slots φ1 φ2 n σ1 pb1 m1 σ2 pb2 m2 w) : ∀ {l : List AK} (hc : okAs n l = true) {x : adens l} {ys : List Value} (h : @ARs φ1 σ1 pb1 w (encAs m1 l x) ys), @ARs φ2 σ2 pb2 w (encAs m2 l x) ys := by
  intro l
  induction l with
  | nil => intro hc x ys h; cases ys with
    | nil => exact trivial
    | cons => exact h.elim
  | cons c l ih =>
    intro hc x ys h
    simp only [okAs, Bool.and_eq_true] at hc
    cases ys with
    | nil => exact h.elim
    | cons y ys => exact ⟨s.encA hc.1 h.1, ih hc.2 h.2⟩
theorem Slots.encP (s : Slots φ1 φ2 n σ1 pb1 m1 σ2 pb2 m2 w) {p : PK} (hc : okP n p = true) {x : p.den} {g1 g2 : Nat} {o : Option Nat} (h : @PlaceR φ1 σ1 pb1 w (encP m1 g1 p x) o) : @PlaceR φ2 σ2 pb2 w (encP m2 g2 p x) o := by
  cases p with
  | gone => cases o <;> exact trivial
  | cells l => cases o with
    | none => exact h.elim
    | some b => obtain ⟨c, e, f, h1, h2, h3⟩ := h; exact ⟨c, e, f, h1, h2, s.encL hc h3⟩
  | rows r _ => cases o with
    | none => exact h
    | some b =>
      obtain ⟨c, e, f, h1, h2, h3, h4⟩ := h
      refine ⟨c, e, f, h1, h2, h3, fun i hi => ?_⟩
      obtain ⟨vs, k1, k2, k3⟩ := h4 i hi
      exact ⟨vs, k1, k2, k3.move s.im⟩
end

end Go.Proofs.YtcngjidojibleaaPM
