/- Single operations: cuts, reckonings, lengths. -/
import Derived.Test.YtcngjidojibleaaPmLem5
set_option linter.unusedVariables false
set_option linter.unusedSectionVars false
set_option linter.unusedSimpArgs false
namespace Go.Proofs.YtcngjidojibleaaPM
open Go Go.RowKit
variable [Foreign]

variable {P : Program} {base : Nat} {σ : Sig} {pb : Pb} {w : World}

def LoIs (v : Option Value) (d a : Int) : Prop := match v with
  | none => a = d
  | some v => ∃ k, v = .int k a
theorem bounds_run (isSl : Bool) (len cap : Nat) (lo hi : Option Value) (a b : Int) (hlo : LoIs lo 0 a) (hhi : LoIs hi len b) (h0 : 0 ≤ a) (h1 : a ≤ b) (h2 : b ≤ len) (h3 : len ≤ cap) :
    (Instr.sliceBounds isSl len cap lo hi none).run P w = .ok (a.toNat, b.toNat, cap) w := by
  unfold Instr.sliceBounds
  have hb : (if isSl then BoundsCode.sliceAcap else .sliceAlen) = if isSl then BoundsCode.sliceAcap else .sliceAlen := rfl
  cases hi with
  | none =>
    have hhi : b = len := hhi
    subst hhi
    cases lo with
    | none => have hlo : a = 0 := hlo; subst hlo; simp
    | some v => obtain ⟨k, rfl⟩ := hlo; simp [Instr.sliceBound, asIntOf, h0, h1]
  | some u =>
    obtain ⟨k', rfl⟩ := hhi
    have hb0 : 0 ≤ b := by omega
    have hbc : b ≤ (cap : Int) := by omega
    cases lo with
    | none => have hlo : a = 0 := hlo; subst hlo; simp [Instr.sliceBound, asIntOf, hb0, hbc]
    | some v =>
      obtain ⟨k, rfl⟩ := hlo
      have : a ≤ ((b.toNat : Nat) : Int) := by omega
      simp [Instr.sliceBound, asIntOf, h0, hb0, hbc, this]
      intro hx
      exfalso
      omega

def OptR (σ : Sig) (pb : Pb) (w : World) : Option PV → Option Value → Prop
  | none, none => True
  | some p, some y => VR σ pb w p y
  | _, _ => False
theorem low_rel {lo : Option PV} {l : Option Value} {a : Int} (h : lowOf lo = some a) (hr : OptR σ pb w lo l) : LoIs l 0 a := by
  cases lo with
  | none => cases l with
    | none => cases h; rfl
    | some => exact hr.elim
  | some p => cases l with
    | none => exact hr.elim
    | some y => obtain ⟨k, e⟩ := asI_rel (show asI p = some a from h) hr; exact ⟨k, e⟩
theorem high_rel {d : Int} {lo : Option PV} {l : Option Value} {a : Int} (h : highOf d lo = some a) (hr : OptR σ pb w lo l) : LoIs l d a := by
  cases lo with
  | none => cases l with
    | none => cases h; rfl
    | some => exact hr.elim
  | some p => cases l with
    | none => exact hr.elim
    | some y => obtain ⟨k, e⟩ := asI_rel (show asI p = some a from h) hr; exact ⟨k, e⟩

theorem slice_run {t e : TypeId} {r : Sh} (hu : P.underlying t = some (.slice e)) (hel : elOk P e r = true) {a0 : Option Addr} {len cap : Nat} {lo hi : Option Value} {a b : Int}
    (hb : (Instr.sliceBounds true len cap lo hi none).run P w = .ok (a.toNat, b.toNat, cap) w) :
    (Instr.sliceAt t (.slice a0 len cap) lo hi none).run P w = .ok (.slice (if cap = a.toNat then a0 else a0.map (·.add (a.toNat * r.n))) (b.toNat - a.toNat) (cap - a.toNat)) w := by
  obtain ⟨e1, _, ti, hti⟩ := elOk_spec hel
  unfold Instr.sliceAt Instr.slice
  simp [und_run hu, hb, size_run hti, e1]

theorem cut_rows {r : Sh} {xs : List r.den} {a : Option Addr} {i j : Int} {cap : Nat} (h0 : 0 ≤ i) (h1 : i ≤ j) (h2 : j ≤ xs.length) (hc : xs.length ≤ cap) (h : RowsR pb w r.n (ER pb w r) xs a) :
    RowsR pb w r.n (ER pb w r) (cut xs i j) (if cap = i.toNat then a else a.map (·.add (i.toNat * r.n))) := by
  intro q hq
  have hlen : (cut xs i j).length = j.toNat - i.toNat := by simp [cut]; omega
  rw [hlen] at hq
  obtain ⟨b, o, vs, rfl, him, hl, hcell, he⟩ := h (i.toNat + q) (by omega)
  rw [if_neg (by omega)]
  refine ⟨b, o + i.toNat * r.n, vs, by simp [add_mk], him, hl, fun p hp => ?_, ?_⟩
  · rw [← hcell p hp]
    congr 2
    rw [Nat.add_mul]
    omega
  · have : (cut xs i j)[q]'(by omega) = xs[i.toNat + q]'(by omega) := by simp [cut]
    rw [this]
    exact he

theorem slice_ok {t : TypeId} {p : PV} {lo hi : Option PV} {y : Value} {l h' : Option Value} {tr : Tri} (h : oSlice P t p lo hi σ = some tr) (h1 : tr.ok = true) (hs : St base σ pb w) (hv : VR σ pb w p y)
    (hl : OptR σ pb w lo l) (hh : OptR σ pb w hi h') :
    SemOk P base σ pb w (Instr.sliceAt t y l h' none) tr := by
  unfold oSlice at h
  split at h
  · rename_i hu
    cases p with
    | v x =>
      cases x with
      | string s =>
        simp only at h
        split at h
        · rename_i a b ha hb
          cases h
          simp only [Bool.and_eq_true, decide_eq_true_eq] at h1
          have hv : y = .string s := hv
          subst hv
          refine SemOk.stay hs (z := .string (s.extract a.toNat b.toNat)) ?_ rfl
          unfold Instr.sliceAt Instr.slice
          have := bounds_run (P := P) (w := w) false s.size s.size l h' a b (low_rel ha hl) (high_rel hb hh) h1.1 h1.2.1 h1.2.2 (Nat.le_refl _)
          simp [und_run hu, this]
        · cases h
      | _ => cases h
    | _ => cases h
  · rename_i e hu
    cases p with
    | rows full r xs =>
      simp only at h
      split at h
      · rename_i a b ha hb
        split at h
        · rename_i hel
          cases h
          simp only [Bool.and_eq_true, decide_eq_true_eq] at h1
          obtain ⟨a0, cap, rfl, hc, _, hr⟩ := hv
          have := bounds_run (P := P) (w := w) true xs.length cap l h' a b (low_rel ha hl) (high_rel hb hh) h1.1 h1.2.1 h1.2.2 hc
          refine SemOk.stay hs (slice_run hu hel this) ⟨_, cap - a.toNat, ?_, ?_, fun e => (by cases e), cut_rows h1.1 h1.2.1 h1.2.2 hc hr⟩
          · congr 1
            simp [cut]; omega
          · simp [cut]; omega
        · cases h
      · cases h
    | own k g =>
      simp only at h
      split at h
      · rename_i r xs g' hk
        split at h
        · rename_i a b ha hb
          split at h
          · rename_i hc
            cases h
            simp only [Bool.and_eq_true, decide_eq_true_eq] at h1
            obtain ⟨hlt, hv⟩ := hv
            rcases (hv _ _ _ hk).2 hc.1.symm with ⟨bl, cap, hb', rfl, hcap, _⟩ | ⟨_, hx, a0, rfl⟩
            · have := bounds_run (P := P) (w := w) true xs.length cap l h' a b (low_rel ha hl) (high_rel hb hh) h1.1 h1.2.1 h1.2.2 hcap
              refine SemOk.stay hs (slice_run hu hc.2 this) ⟨hlt, fun r' xs' g'' hk' => ?_⟩
              rw [hk] at hk'
              cases hk'
              refine ⟨by omega, fun _ => .inl ⟨bl, if cap = a.toNat then 0 else a.toNat * r.n, cap - a.toNat, hb', by omega, fun hp => if_neg (by omega), ?_, by omega⟩⟩
              split <;> simp [add_mk]
            · subst hx
              simp at h1
              have := bounds_run (P := P) (w := w) true 0 0 l h' a b (low_rel ha hl) (high_rel hb hh) h1.1 h1.2.1 (by omega) (Nat.le_refl _)
              refine SemOk.stay hs (slice_run hu hc.2 this) ⟨hlt, fun r' xs' g'' hk' => ?_⟩
              rw [hk] at hk'
              cases hk'
              exact ⟨by omega, fun _ => .inr ⟨by omega, _, by rw [show b.toNat - a.toNat = 0 by omega, show 0 - a.toNat = 0 by omega]⟩⟩
          · cases h
        · cases h
      · cases h
    | ref k i n g =>
      simp only at h
      split at h
      · rename_i r xs g' hk
        split at h
        · rename_i a b ha hb
          split at h
          · rename_i hc
            cases h
            simp only [Bool.and_eq_true, decide_eq_true_eq] at h1
            obtain ⟨hlt, hv⟩ := hv
            rcases (hv _ _ _ hk).2 hc.1.symm with ⟨bl, o, cap, hb', hle, ho, rfl, hcap⟩ | ⟨hx, a0, rfl⟩
            · have := bounds_run (P := P) (w := w) true n cap l h' a b (low_rel ha hl) (high_rel hb hh) h1.1 h1.2.1 h1.2.2 hcap
              refine SemOk.stay hs (slice_run hu hc.2 this) ⟨hlt, fun r' xs' g'' hk' => ?_⟩
              rw [hk] at hk'
              cases hk'
              refine ⟨by omega, fun _ => .inl ⟨bl, if cap = a.toNat then o else o + a.toNat * r.n, cap - a.toNat, hb', by omega, fun hp => ?_, ?_, by omega⟩⟩
              · rw [if_neg (by omega), ho (by omega), Nat.add_mul]
              · split <;> simp [add_mk]
            · subst hx
              have := bounds_run (P := P) (w := w) true 0 0 l h' a b (low_rel ha hl) (high_rel hb hh) h1.1 h1.2.1 (by omega) (Nat.le_refl _)
              refine SemOk.stay hs (slice_run hu hc.2 this) ⟨hlt, fun r' xs' g'' hk' => ?_⟩
              rw [hk] at hk'
              cases hk'
              exact ⟨by omega, fun _ => .inr ⟨by omega, _, by rw [show b.toNat - a.toNat = 0 by omega, show 0 - a.toNat = 0 by omega]⟩⟩
          · cases h
        · cases h
      · cases h
    | _ => cases h
  · rename_i m e hu
    cases p with
    | apl k i m' g =>
      simp only at h
      split at h
      · rename_i r xs g' hk
        split at h
        · rename_i a b ha hb
          split at h
          · rename_i hc
            cases h
            simp only [Bool.and_eq_true, decide_eq_true_eq] at h1
            obtain ⟨hlt, bl, o', rfl, hv⟩ := hv
            obtain ⟨rfl, hel, rfl⟩ := hc
            obtain ⟨hb', hle, rfl⟩ := (hv _ _ _ hk).2 rfl
            obtain ⟨e1, _, ti, hti⟩ := elOk_spec hel
            have := bounds_run (P := P) (w := w) false m' m' l h' a b (low_rel ha hl) (high_rel hb hh) h1.1 h1.2.1 h1.2.2 (Nat.le_refl _)
            refine SemOk.stay hs (z := .slice (some (if m' = a.toNat then ⟨bl, i * r.n, none⟩ else (⟨bl, i * r.n, none⟩ : Addr).add (a.toNat * r.n))) (b.toNat - a.toNat) (m' - a.toNat)) ?_ ⟨hlt, fun r' xs' g'' hk' => ?_⟩
            · unfold Instr.sliceAt
              simp [und_run hu, Instr.sureAddr, this, size_run hti, e1]
            · rw [hk] at hk'
              cases hk'
              refine ⟨by omega, fun _ => .inl ⟨bl, if m' = a.toNat then i * r.n else i * r.n + a.toNat * r.n, m' - a.toNat, hb', by omega, fun hp => ?_, ?_, by omega⟩⟩
              · rw [if_neg (by omega), Nat.add_mul]
              · split <;> simp [add_mk]
          · cases h
        · cases h
      · cases h
    | _ => cases h
  · cases h

end Go.Proofs.YtcngjidojibleaaPM
