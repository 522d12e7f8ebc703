/- What holds of a callee's own places holds in the caller's. -/
import Derived.Test.YtcngjidojibleaaPmTab
import Derived.Test.YtcngjidojibleaaPmPat2
set_option linter.unusedVariables false
set_option linter.unusedSectionVars false
set_option linter.unusedSimpArgs false
namespace Go.Proofs.YtcngjidojibleaaPM
open Go Go.RowKit

theorem nth_get {α : Type} : ∀ (l : List α) (j : Nat), nth l j = l[j]?
  | [], j => by simp [nth]
  | x :: l, 0 => by simp [nth]
  | x :: l, j + 1 => by simp [nth, nth_get l j]
theorem notIn_ne {k : Nat} : ∀ {l : List (Nat × Nat)}, notIn k l = true → ∀ (j : Nat) (x : Nat × Nat), l[j]? = some x → x.1 ≠ k := by
  intro l
  induction l with
  | nil => intro _ j x h; simp at h
  | cons y l ih =>
    intro h j x hx
    obtain ⟨i, g⟩ := y
    simp only [notIn, Bool.and_eq_true, Bool.not_eq_true'] at h
    cases j with
    | zero =>
      cases hx
      intro e
      simp only at e
      rw [e, Nat.beq_refl] at h
      cases h.1
    | succ j => exact ih h.2 j x (by simpa using hx)
structure ApartI (len : Nat) (ι : List (Nat × Nat)) : Prop where
  lt : ∀ (j : Nat) (x : Nat × Nat), ι[j]? = some x → x.1 < len
  ne : ∀ (i j : Nat) (x y : Nat × Nat), ι[i]? = some x → ι[j]? = some y → x.1 = y.1 → i = j
theorem apartI_spec {len : Nat} : ∀ {ι : List (Nat × Nat)}, apartI len ι = true → ApartI len ι := by
  intro ι
  induction ι with
  | nil => intro _; exact ⟨fun j x h => by simp at h, fun i j x y h => by simp at h⟩
  | cons z ι ih =>
    intro h
    obtain ⟨k, g⟩ := z
    simp only [apartI, Bool.and_eq_true, Nat.blt_eq] at h
    obtain ⟨h1, h2, h3⟩ := h
    have hi := ih h3
    have hn := notIn_ne h2
    refine ⟨fun j x hx => ?_, fun i j x y hx hy e => ?_⟩
    · cases j with
      | zero => cases hx; exact h1
      | succ j => exact hi.lt j x (by simpa using hx)
    · cases i with
      | zero => cases j with
        | zero => rfl
        | succ j => cases hx; exact absurd e.symm (hn j y (by simpa using hy))
      | succ i => cases j with
        | zero => cases hy; exact absurd e (hn i x (by simpa using hx))
        | succ j => rw [hi.ne i j x y (by simpa using hx) (by simpa using hy) e]

theorem putAll_spec {α : Type} : ∀ (ι : List (Nat × Nat)) (l ps : List α), ApartI l.length ι → ι.length ≤ ps.length →
    (putAll l ι ps).length = l.length + (ps.length - ι.length) ∧
    (∀ (j : Nat) (x : Nat × Nat), ι[j]? = some x → (putAll l ι ps)[x.1]? = ps[j]?) ∧
    (∀ k, k < l.length → (∀ (j : Nat) (x : Nat × Nat), ι[j]? = some x → x.1 ≠ k) → (putAll l ι ps)[k]? = l[k]?) ∧
    ∀ i : Nat, (putAll l ι ps)[l.length + i]? = ps[ι.length + i]? := by
  intro ι
  induction ι with
  | nil =>
    intro l ps _ _
    simp only [putAll]
    refine ⟨by simp, fun j x h => by simp at h, fun k hk _ => List.getElem?_append_left hk, fun i => ?_⟩
    rw [List.getElem?_append_right (by omega)]
    simp
  | cons z ι ih =>
    intro l ps ha hp
    obtain ⟨k, g⟩ := z
    cases ps with
    | nil => simp at hp
    | cons p ps =>
      simp only [putAll]
      have ha' : ApartI (l.set k p).length ι := ⟨fun j x h => by simpa using ha.lt (j + 1) x (by simpa using h), fun i j x y hx hy e => by
        have := ha.ne (i + 1) (j + 1) x y (by simpa using hx) (by simpa using hy) e
        omega⟩
      have hk : k < l.length := ha.lt 0 (k, g) rfl
      have hne : ∀ (j : Nat) (x : Nat × Nat), ι[j]? = some x → x.1 ≠ k := fun j x hx e => by
        have := ha.ne (j + 1) 0 x (k, g) (by simpa using hx) rfl e
        omega
      obtain ⟨a1, a2, a3, a4⟩ := ih (l.set k p) ps ha' (by simpa using hp)
      refine ⟨by simp [a1], fun j x hx => ?_, fun i hi hn => ?_, fun i => ?_⟩
      · cases j with
        | zero =>
          cases hx
          rw [a3 k (by simpa using hk) hne]
          simp [hk]
        | succ j => simpa using a2 j x (by simpa using hx)
      · rw [a3 i (by simpa using hi) fun j x hx => hn (j + 1) x (by simpa using hx)]
        have : k ≠ i := hn 0 (k, g) rfl
        simp [List.getElem?_set, this]
      · have := a4 i
        simp only [List.length_set] at this
        rw [this]
        simp [Nat.add_right_comm]

theorem encPs_get {m : Nat → Nat × Nat} : ∀ {l : List PK} {j : Nat} {d : pdens l} (i : Nat) (p : Place), (encPs m j l d)[i]? = some p → ∃ (k : PK) (x : k.den), l[i]? = some k ∧ p = encP m (m (j + i)).2 k x ∧ ∀ m' : Nat → Nat × Nat, (encPs m' j l d)[i]? = some (encP m' (m' (j + i)).2 k x) := by
  intro l
  induction l with
  | nil => intro j d i p h; simp [encPs] at h
  | cons c l ih =>
    intro j d i p h
    cases i with
    | zero =>
      simp only [encPs, List.getElem?_cons_zero, Option.some.injEq] at h
      exact ⟨c, d.1, rfl, h.symm, fun m' => by simp [encPs]⟩
    | succ i =>
      simp only [encPs, List.getElem?_cons_succ] at h
      obtain ⟨k, x, h1, h2, h3⟩ := ih i p h
      refine ⟨k, x, by simpa using h1, by rw [h2, Nat.add_right_comm, Nat.add_assoc], fun m' => ?_⟩
      have := h3 m'
      simp only [encPs, List.getElem?_cons_succ, this]
      rw [Nat.add_right_comm, Nat.add_assoc]
theorem encPs_len {m : Nat → Nat × Nat} : ∀ {l : List PK} {j : Nat} {d : pdens l}, (encPs m j l d).length = l.length := by
  intro l
  induction l with
  | nil => intro j d; rfl
  | cons c l ih => intro j d; simp [encPs, ih]
theorem decPs_get {m : Nat → Nat × Nat} {σ : Sig} : ∀ {l : List PK} {j : Nat} {d : pdens l}, decPs m σ j l = some d → ∀ (i : Nat) (k : PK), l[i]? = some k → ∃ (q : Place) (x : k.den), σ[(m (j + i)).1]? = some q ∧ decP m (m (j + i)).2 k q = some x ∧ ∀ m' : Nat → Nat × Nat, (encPs m' j l d)[i]? = some (encP m' (m' (j + i)).2 k x) := by
  intro l
  induction l with
  | nil => intro j d h i k hk; simp at hk
  | cons c l ih =>
    intro j d h i k hk
    simp only [decPs] at h
    split at h
    · rename_i q hq
      split at h
      · rename_i x hx
        split at h
        · rename_i d' hd
          cases h
          cases i with
          | zero =>
            cases hk
            exact ⟨q, x, by rw [← nth_get]; exact hq, hx, fun m' => by simp [encPs]⟩
          | succ i =>
            obtain ⟨q', x', h1, h2, h3⟩ := ih hd i k (by simpa using hk)
            have e : j + 1 + i = j + (i + 1) := by omega
            rw [e] at h1 h2
            refine ⟨q', x', h1, h2, fun m' => ?_⟩
            have := h3 m'
            rw [e] at this
            simpa [encPs] using this
        · cases h
      · cases h
    · cases h

section
variable [Foreign] {σ : Sig} {pb : Pb} {w : World} {m : Nat → Nat × Nat}
theorem decA_vr {a : AK} {p : PV} {x : a.den} {y : Value} (h : decA m a p = some x) (hv : VR σ pb w p y) : AR σ pb w (encA m a x) y := by
  cases p with
  | tup vs => cases a with
    | any => exact trivial
    | one c => simp [decA, cellish] at h
    | agg l => simp [decA] at h
    | fn f l => simp [decA] at h
    | arr k => simp [decA] at h
  | _ => exact decA_ok h hv
theorem decAs_vr : ∀ {l : List AK} {ps : List PV} {d : adens l} {ys : List Value}, decAs m l ps = some d → VRs σ pb w ps ys → ARs σ pb w (encAs m l d) ys := by
  intro l
  induction l with
  | nil =>
    intro ps d ys h hr
    simp only [decAs] at h
    split at h
    · cases ys with
      | nil => exact trivial
      | cons => exact hr.elim
    · cases h
  | cons c l ih =>
    intro ps d ys h hr
    simp only [decAs] at h
    split at h
    · rename_i p t
      split at h
      · rename_i x hx
        split at h
        · rename_i d' hd
          cases h
          cases ys with
          | nil => exact hr.elim
          | cons y ys => exact ⟨decA_vr hx hr.1, ih hd hr.2⟩
        · cases h
      · cases h
    · cases h
theorem AR.vr {p : PV} {y : Value} (h : AR σ pb w p y) : VR σ pb w p y := by
  cases p <;> first | exact h | exact h.elim
theorem ARs.vrs : ∀ {ps : List PV} {ys : List Value}, ARs σ pb w ps ys → VRs σ pb w ps ys
  | [], [], _ => trivial
  | p :: ps, y :: ys, h => ⟨h.1.vr, ARs.vrs h.2⟩
  | [], _ :: _, h => h.elim
  | _ :: _, [], h => h.elim
theorem encA_ntup {a : AK} {x : a.den} (vs : List PV) : encA m a x ≠ .tup vs := by
  cases a with
  | one c =>
    simp only [encA]
    have := @encC_cellish m c x
    generalize encC m c x = q at this
    match q, this with
    | [], _ => simp [fst1]
    | [p], h =>
      intro e
      have := h p (List.mem_singleton.2 rfl)
      simp only [fst1] at e
      subst e
      cases this
    | _ :: _ :: _, _ => simp [fst1]
  | _ => simp [encA]
theorem VR.ar {p : PV} {y : Value} (hp : ∀ vs, p ≠ .tup vs) (h : VR σ pb w p y) : AR σ pb w p y := by
  cases p <;> first | exact h | exact absurd rfl (hp _)
end

theorem okPs_get {n : Nat} : ∀ {l : List PK}, okPs n l = true → ∀ (i : Nat) (k : PK), l[i]? = some k → okP n k = true := by
  intro l
  induction l with
  | nil => intro _ i k h; simp at h
  | cons c l ih =>
    intro h i k hk
    simp only [okPs, Bool.and_eq_true] at h
    cases i with
    | zero => cases hk; exact h.1
    | succ i => exact ih h.2 i k (by simpa using hk)

end Go.Proofs.YtcngjidojibleaaPM
