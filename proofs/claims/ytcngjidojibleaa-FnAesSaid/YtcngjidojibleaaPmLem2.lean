/- Single operations: pointers, loads, stores. -/
import Derived.Test.YtcngjidojibleaaPmLem1
set_option linter.unusedVariables false
set_option linter.unusedSectionVars false
set_option linter.unusedSimpArgs false
namespace Go.Proofs.YtcngjidojibleaaPM
open Go Go.RowKit
variable [Foreign]

variable {P : Program} {base : Nat} {σ : Sig} {pb : Pb} {w : World}

theorem nil_ok {p : PV} {y : Value} {t : Tri} (h : oNil p σ = some t) (hv : VR σ pb w p y) :
    t = ⟨true, p, σ⟩ ∧ ((∃ a, y = .pointer (some a)) ∨ ∃ g c, y = .func (.func g) #[] c) := by
  cases p with
  | ptr k o => cases h; obtain ⟨_, b, e, _⟩ := hv; exact ⟨rfl, .inl ⟨_, e⟩⟩
  | rp k i o g => cases h; obtain ⟨_, b, o, e, _⟩ := hv; exact ⟨rfl, .inl ⟨_, e⟩⟩
  | apl k i n g => cases h; obtain ⟨_, b, o, e, _⟩ := hv; exact ⟨rfl, .inl ⟨_, e⟩⟩
  | ep r x o => cases h; obtain ⟨b, o, vs, e, _⟩ := hv; exact ⟨rfl, .inl ⟨_, e⟩⟩
  | fn g c => cases h; obtain ⟨ys, e, _⟩ := hv; exact ⟨rfl, .inr ⟨_, _, e⟩⟩
  | _ => cases h

theorem fieldsOf_some {s : TypeId} {i : Nat} {fd : Field} (h : (fieldsOf P s)[i]? = some fd) : ∃ fs, P.underlying s = some (.struct fs) ∧ fs[i]? = some fd := by
  unfold fieldsOf at h
  split at h
  · rename_i fs hu; exact ⟨fs, hu, by simpa using h⟩
  · simp at h

theorem fieldAt_run {s : TypeId} {fs : Array Field} {i : Nat} {fd : Field} (hu : P.underlying s = some (.struct fs)) (hi : fs[i]? = some fd) (hz : szOf P fd.type ≠ 0) (b o : Nat) :
    (Instr.fieldAt s (.pointer (some ⟨b, o, none⟩)) i).run P w = .ok (.pointer (some ⟨b, o + fd.offset, none⟩)) w := by
  obtain ⟨ti, hti⟩ := szOf_info hz
  unfold Instr.fieldAt fieldPlace
  simp [und_run hu, hi, Instr.sureAddr, size_run hti, hz, add_mk]

theorem fieldAddr_ok {s : TypeId} {p : PV} {i : Nat} {y : Value} {t : Tri} (h : oFieldAddr P s p i σ = some t) (hs : St base σ pb w) (hv : VR σ pb w p y) :
    SemOk P base σ pb w (Instr.fieldAt s y i) t := by
  unfold oFieldAddr at h
  cases hfd : (fieldsOf P s)[i]? with
  | none => rw [hfd] at h; cases h
  | some fd =>
    rw [hfd] at h
    obtain ⟨fs, hu, hi⟩ := fieldsOf_some hfd
    simp only at h
    by_cases hz : szOf P fd.type = 0
    · rw [if_pos hz] at h; cases h
    rw [if_neg hz] at h
    cases p with
    | ptr k o =>
      cases h
      obtain ⟨hlt, b, rfl, hv⟩ := hv
      exact SemOk.stay hs (fieldAt_run hu hi hz b o) ⟨hlt, b, rfl, hv⟩
    | rp k i' o g =>
      cases h
      obtain ⟨hlt, b, o', rfl, hv⟩ := hv
      exact SemOk.stay hs (fieldAt_run hu hi hz b _) ⟨hlt, b, o', by rw [Nat.add_assoc], hv⟩
    | ep r x off =>
      cases h
      obtain ⟨b, o, vs, rfl, hrest⟩ := hv
      exact SemOk.stay hs (fieldAt_run hu hi hz b _) ⟨b, o, vs, by rw [Nat.add_assoc], hrest⟩
    | apl k i' n g =>
      simp only at h
      split at h
      · rename_i k' xs g' hk
        split at h
        · rename_i hc
          cases h
          obtain ⟨hlt, b, o', rfl, hv⟩ := hv
          refine SemOk.stay hs (fieldAt_run hu hi hz b _) ⟨hlt, b, _, rfl, fun r2 ys g2 hk2 => ?_⟩
          obtain ⟨e1, e2⟩ := hv r2 ys g2 hk2
          refine ⟨e1, fun e => ?_⟩
          obtain ⟨a1, a2, a3⟩ := e2 e
          rw [hk] at hk2
          cases hk2
          simp only [Sh.n, Nat.mul_one] at a3 ⊢
          exact ⟨a1, by omega, by omega⟩
        · cases h
      · cases h
    | _ => cases h

theorem part_run {t : TypeId} {cs : List PV} {ys : List Value} {off : Nat} {p : PV} (h : partOf P t cs off = some p) (hr : CRs σ pb w cs ys) :
    ∃ z, (part t ys.toArray off).run P w = .ok z w ∧ VR σ pb w p z := by
  unfold partOf at h
  cases hu : P.underlying t with
  | none => rw [hu] at h; cases h
  | some d =>
    rw [hu] at h
    simp only at h
    split at h
    · rename_i hle
      have hlen := hr.length
      unfold part
      rw [Sem.run_bind, agg_run hu, Result.andThen_ok]
      have hd := (hr.drop off).take (szOf P t)
      cases ha : isAggT P t with
      | true =>
        rw [ha] at h
        cases h
        refine ⟨.agg ((ys.drop off).take (szOf P t)).toArray, ?_, _, rfl, hd⟩
        simp only [if_true]
        rw [Sem.run_bind, size_run' hu, Result.andThen_ok]
        simp [List.extract_toArray, List.extract_eq_take_drop]
      | false =>
        rw [ha] at h
        match hq : (cs.drop off).take (szOf P t), hd, h with
        | [q], hd, h =>
          cases h
          match hy : (ys.drop off).take (szOf P t), hd with
          | [y], hd =>
            refine ⟨y, ?_, ?_⟩
            · have h0 : ys[off]? = some y := by
                have : ((ys.drop off).take (szOf P t))[0]? = some y := by rw [hy]; rfl
                rw [List.getElem?_take] at this
                split at this
                · simpa using this
                · cases this
              simp [h0]
            · have := hd.1
              cases p <;> first | exact this | exact this.elim
          | [], hd => exact hd.elim
          | _ :: _ :: _, hd => exact hd.2.elim
        | [], _, h => cases h
        | _ :: _ :: _, _, h => cases h
    · cases h

theorem field_ok {t0 : TypeId} {p : PV} {i : Nat} {y : Value} {t : Tri} (h : oField P t0 p i σ = some t) (hs : St base σ pb w) (hv : VR σ pb w p y) :
    SemOk P base σ pb w (Instr.field t0 y i) t := by
  unfold oField at h
  cases hfd : (fieldsOf P t0)[i]? with
  | none => rw [hfd] at h; cases h
  | some fd =>
    rw [hfd] at h
    obtain ⟨fs, hu, hi⟩ := fieldsOf_some hfd
    cases p with
    | agg cs =>
      simp only at h
      obtain ⟨ys, rfl, hr⟩ := hv
      cases hq : partOf P fd.type cs fd.offset with
      | none => rw [hq] at h; cases h
      | some q =>
        rw [hq] at h
        cases h
        obtain ⟨z, hz, hvz⟩ := part_run hq hr
        refine SemOk.stay hs ?_ hvz
        unfold Instr.field
        simp [und_run hu, hi, asAgg]
        exact hz
    | _ => cases h

/-! ### loads -/
theorem St.cells {hs : St base σ pb w} {k : Nat} {cs : List PV} {b : Nat} (hk : σ[k]? = some (.cells cs)) (hb : pb[k]? = some (some b)) :
    ∃ c e f, w.heap[b]? = some (.cells c e f) ∧ Unfrozen f c.size ∧ CRs σ pb w cs c.toList := hs.pl k _ _ hk hb
theorem St.rows {hs : St base σ pb w} {k : Nat} {r : Sh} {xs : List r.den} {g b : Nat} (hk : σ[k]? = some (.rows r xs g)) (hb : pb[k]? = some (some b)) :
    ∃ c e f, w.heap[b]? = some (.cells c e f) ∧ Unfrozen f c.size ∧ xs.length * r.n ≤ c.size ∧
      ∀ i (h : i < xs.length), ∃ vs, vs.length = r.n ∧ (∀ j, j < r.n → c[i * r.n + j]? = vs[j]?) ∧ ER pb w r xs[i] vs := hs.pl k _ _ hk hb
theorem rdS_get (r : Sh) (xs : List r.den) (i : Nat) (h : i < xs.length) : rdS r xs i = xs[i] := by
  unfold rdS
  simp [h]

theorem loadP_ok {t : TypeId} {d : TypeDesc} (hu : P.underlying t = some d) {p q : PV} {y : Value} (h : loadP (isAggT P t) (szOf P t) σ p = some q) (hs : St base σ pb w) (hv : VR σ pb w p y) :
    ∃ z, (Instr.loadAt t y).run P w = .ok z w ∧ VR σ pb w q z := by
  cases p with
  | ptr k o =>
    simp only [loadP] at h
    split at h
    · rename_i cs hk
      split at h
      · rename_i hle
        obtain ⟨hlt, b, rfl, hv⟩ := hv
        have hb := hv _ hk
        obtain ⟨c, e, f, h1, h2, h3⟩ := St.cells (hs := hs) hk hb
        have hl := h3.length
        refine wrap_load hu (ys := (c.toList.drop o).take (szOf P t)) (by simp at hl ⊢; omega) (fun j v hj => ?_) h ((h3.drop o).take _)
        rw [cell_mk w b _ h1]
        rw [List.getElem?_take] at hj
        split at hj
        · simpa using hj
        · cases hj
      · cases h
    · cases h
  | rp k i off g =>
    simp only [loadP] at h
    split at h
    · rename_i r xs g' hk
      split at h
      · rename_i hle
        obtain ⟨hlt, b, o', rfl, hv⟩ := hv
        obtain ⟨hb, hi, rfl⟩ := (hv _ _ _ hk).2 hle.1.symm
        obtain ⟨c, e, f, h1, h2, h3, h4⟩ := St.rows (hs := hs) hk hb
        obtain ⟨vs, a1, a2, a3⟩ := h4 i hi
        rw [rdS_get r xs i hi] at h
        refine wrap_load hu (ys := (vs.drop off).take (szOf P t)) (by simp; omega) (fun j v hj => ?_) h ((a3.crs.drop off).take _)
        rw [cell_mk w b _ h1]
        rw [List.getElem?_take] at hj
        split at hj
        · rw [List.getElem?_drop] at hj
          rw [Nat.add_assoc, a2 (off + j) (by omega)]
          exact hj
        · cases hj
      · cases h
    · cases h
  | ep r x off =>
    simp only [loadP] at h
    split at h
    · rename_i hle
      obtain ⟨b, o, vs, rfl, him, hl, hc, he⟩ := hv
      refine wrap_load hu (ys := (vs.drop off).take (szOf P t)) (by simp; omega) (fun j v hj => ?_) h ((he.crs.drop off).take _)
      rw [List.getElem?_take] at hj
      split at hj
      · rw [List.getElem?_drop] at hj
        rw [Nat.add_assoc, hc (off + j) (by omega)]
        exact hj
      · cases hj
    · cases h
  | _ => cases h

end Go.Proofs.YtcngjidojibleaaPM
