/- Single operations: what is loaded, stored, pointed at. -/
import Derived.Test.YtcngjidojibleaaPmMem
import Derived.Laws.Cells
set_option linter.unusedVariables false
set_option linter.unusedSectionVars false
set_option linter.unusedSimpArgs false
namespace Go.Proofs.YtcngjidojibleaaPM
open Go Go.RowKit
variable [Foreign]

section
variable {P : Program} {w : World} {t : TypeId}
theorem und_run {d : TypeDesc} (h : P.underlying t = some d) : (underlying t).run P w = .ok d w := by
  unfold underlying
  simp [h]
theorem info_of {d : TypeDesc} (h : P.underlying t = some d) : ∃ i, P.info? t = some i := by
  unfold Program.underlying at h
  cases hi : P.info? t with
  | none => rw [hi] at h; cases h
  | some i => exact ⟨i, rfl⟩
theorem size_run {i : TypeInfo} (h : P.info? t = some i) : (sizeOf t).run P w = .ok (szOf P t) w := by
  unfold sizeOf typeInfo szOf
  simp [h]
theorem size_run' {d : TypeDesc} (h : P.underlying t = some d) : (sizeOf t).run P w = .ok (szOf P t) w := by
  obtain ⟨i, hi⟩ := info_of h
  exact size_run hi
theorem agg_run {d : TypeDesc} (h : P.underlying t = some d) : (isAgg t).run P w = .ok (isAggT P t) w := by
  unfold isAgg isAggT
  rw [Sem.run_bind, und_run h, h]
  cases d <;> rfl
theorem zero_run {z : Value} (h : zeroOf P t = some z) : (zeroValue t).run P w = .ok z w := by
  unfold zeroOf at h
  unfold zeroValue typeInfo
  cases hi : P.info? t with
  | none => rw [hi] at h; cases h
  | some i => rw [hi] at h; simp [hi, h]
theorem szOf_info (h : szOf P t ≠ 0) : ∃ i, P.info? t = some i := by
  unfold szOf at h
  cases hi : P.info? t with
  | none => rw [hi] at h; exact absurd rfl h
  | some i => exact ⟨i, rfl⟩
end

def SemOk (P : Program) (base : Nat) (σ : Sig) (pb : Pb) (w : World) (s : Sem Value) (t : Tri) : Prop :=
  ∃ pb' w' z, s.run P w = .ok z w' ∧ St base t.σ pb' w' ∧ Ext σ pb w t.σ pb' w' ∧ VR t.σ pb' w' t.pv z
theorem SemOk.stay {P : Program} {base : Nat} {σ : Sig} {pb : Pb} {w : World} (hs : St base σ pb w) {s : Sem Value} {c : Bool} {p : PV} {z : Value} (hr : s.run P w = .ok z w) (hv : VR σ pb w p z) : SemOk P base σ pb w s ⟨c, p, σ⟩ :=
  ⟨pb, w, z, hr, hs, Ext.refl _ _ _, hv⟩

theorem CRs.map_v' (σ : Sig) (pb : Pb) (w : World) : ∀ l : List Value, CRs σ pb w (l.map .v) l
  | [] => trivial
  | _ :: l => ⟨rfl, CRs.map_v' σ pb w l⟩
section
variable {σ : Sig} {pb : Pb} {w : World}
theorem CRs.drop : ∀ {ps : List PV} {ys : List Value} (n : Nat), CRs σ pb w ps ys → CRs σ pb w (ps.drop n) (ys.drop n)
  | ps, ys, 0, h => h
  | [], [], n + 1, _ => by simp [CRs]
  | p :: ps, y :: ys, n + 1, h => CRs.drop n h.2
  | [], _ :: _, _ + 1, h => h.elim
  | _ :: _, [], _ + 1, h => h.elim
theorem CRs.take : ∀ {ps : List PV} {ys : List Value} (n : Nat), CRs σ pb w ps ys → CRs σ pb w (ps.take n) (ys.take n)
  | ps, ys, 0, h => by simp [CRs]
  | [], [], n + 1, _ => by simp [CRs]
  | p :: ps, y :: ys, n + 1, h => ⟨h.1, CRs.take n h.2⟩
  | [], _ :: _, _ + 1, h => h.elim
  | _ :: _, [], _ + 1, h => h.elim
theorem CRs.append : ∀ {ps qs : List PV} {ys zs : List Value}, CRs σ pb w ps ys → CRs σ pb w qs zs → CRs σ pb w (ps ++ qs) (ys ++ zs)
  | [], _, [], _, _, h => h
  | p :: ps, _, y :: ys, _, h, k => ⟨h.1, CRs.append h.2 k⟩
  | [], _, _ :: _, _, h, _ => h.elim
  | _ :: _, _, [], _, h, _ => h.elim
theorem CRs.get : ∀ {ps : List PV} {ys : List Value}, CRs σ pb w ps ys → ∀ {i : Nat} {p : PV}, ps[i]? = some p → ∃ y, ys[i]? = some y ∧ CR σ pb w p y
  | [], [], _, i, p, h => by simp at h
  | p :: ps, y :: ys, h, 0, q, hq => by simp at hq; subst hq; exact ⟨y, rfl, h.1⟩
  | p :: ps, y :: ys, h, i + 1, q, hq => by simpa using CRs.get h.2 (by simpa using hq)
  | [], _ :: _, h, _, _, _ => h.elim
  | _ :: _, [], h, _, _, _ => h.elim
theorem ER.crs : ∀ {r : Sh} {x : r.den} {vs : List Value}, ER pb w r x vs → CRs σ pb w (r.cells x) vs := by
  intro r
  induction r with
  | int k => intro x vs h; simp only [ER] at h; subst h; exact ⟨rfl, trivial⟩
  | bool => intro x vs h; simp only [ER] at h; subst h; exact ⟨rfl, trivial⟩
  | str => intro x vs h; simp only [ER] at h; subst h; exact ⟨rfl, trivial⟩
  | unit => intro x vs h; simp only [ER] at h; subst h; exact trivial
  | rows r _ => rintro x vs ⟨a, cap, rfl, hc, hr⟩; exact ⟨⟨a, cap, rfl, hc, fun e => (by cases e), hr⟩, trivial⟩
  | pair a b iha ihb => rintro x vs ⟨u, v, rfl, hu, hv⟩; exact (iha hu).append (ihb hv)
end

theorem wrap_load {P : Program} {σ : Sig} {pb : Pb} {w : World} {t : TypeId} {d : TypeDesc} {b o : Nat} {ys : List Value} {ps : List PV} {q : PV} (hu : P.underlying t = some d) (hl : ys.length = szOf P t)
    (hc : ∀ j v, ys[j]? = some v → w.cell? ⟨b, o + j, none⟩ = some v) (hw : wrapCells (isAggT P t) ps = some q) (hr : CRs σ pb w ps ys) :
    ∃ z, (loadVar t ⟨b, o, none⟩).run P w = .ok z w ∧ VR σ pb w q z := by
  unfold loadVar
  rw [Sem.run_bind, agg_run hu, Result.andThen_ok]
  cases ha : isAggT P t with
  | true =>
    rw [ha] at hw
    cases hw
    refine ⟨.agg ys.toArray, ?_, ys, rfl, hr⟩
    simp only [if_true]
    rw [Sem.run_bind, size_run' hu, Result.andThen_ok, Sem.run_bind, ← hl, run_loadCells_list _ _ _ (fun j v hj => by rw [add_mk]; exact hc j v hj)]
    rfl
  | false =>
    rw [ha] at hw
    match ps, ys, hr with
    | [], _, _ => cases hw
    | [p], [y], hr =>
      cases hw
      refine ⟨y, ?_, ?_⟩
      · have := hc 0 y rfl
        simp only [Nat.add_zero] at this
        simp [load, Sem.run, this]
      · have := hr.1
        cases q <;> first | exact this | exact this.elim
    | [_], [], hr => exact hr.elim
    | [_], _ :: _ :: _, hr => exact hr.2.elim
    | _ :: _ :: _, _, _ => cases hw

theorem CRs.map_v (σ : Sig) (pb : Pb) (w : World) : ∀ l : List Value, CRs σ pb w (l.map .v) l
  | [] => trivial
  | _ :: l => ⟨rfl, CRs.map_v σ pb w l⟩
theorem ofV_rel (σ : Sig) (pb : Pb) (w : World) (x : Value) : VR σ pb w (ofV x) x := by
  cases x with
  | agg cs => exact ⟨cs.toList, by simp, CRs.map_v _ _ _ _⟩
  | _ => rfl
theorem cellV_rel {σ : Sig} {pb : Pb} {w : World} {p : PV} {x y : Value} (h : cellV p = some x) (hv : CR σ pb w p y) : y = x := by
  cases p <;> simp only [cellV] at h <;> cases h
  exact hv
theorem toVs_rel {σ : Sig} {pb : Pb} {w : World} : ∀ {ps : List PV} {l ys : List Value}, toVs ps = some l → CRs σ pb w ps ys → ys = l
  | [], l, [], h, _ => by cases h; rfl
  | p :: ps, l, y :: ys, h, hv => by
    unfold toVs at h
    cases hx : cellV p with
    | none => rw [hx] at h; cases h
    | some x =>
      rw [hx] at h
      cases hl : toVs ps with
      | none => rw [hl] at h; cases h
      | some q => rw [hl] at h; cases h; rw [cellV_rel hx hv.1, toVs_rel hl hv.2]
  | [], _, _ :: _, _, hv => hv.elim
  | _ :: _, _, [], _, hv => hv.elim
theorem toV_rel {σ : Sig} {pb : Pb} {w : World} {p : PV} {x y : Value} (h : toV p = some x) (hv : VR σ pb w p y) : y = x := by
  cases p <;> simp only [toV] at h
  case v z => cases h; exact hv
  case agg cs =>
    obtain ⟨ys, rfl, hc⟩ := hv
    cases hl : toVs cs with
    | none => rw [hl] at h; cases h
    | some l => rw [hl] at h; cases h; rw [toVs_rel hl hc]
  all_goals cases h
theorem val_run {α : Type} (P : Program) : ∀ (s : Sem α) (a : α) (w : World), Sem.val P s = some a → s.run P w = .ok a w := by
  intro s
  induction s with
  | pure x => intro a w h; cases h; rfl
  | program k ih => intro a w h; exact ih P a w h
  | _ => intro a w h; cases h


end Go.Proofs.YtcngjidojibleaaPM
