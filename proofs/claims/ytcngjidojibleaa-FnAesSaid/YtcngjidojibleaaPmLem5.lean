/- Single operations: literals of structs, indices, cuts, reckonings. -/
import Derived.Test.YtcngjidojibleaaPmLem4
set_option linter.unusedVariables false
set_option linter.unusedSectionVars false
set_option linter.unusedSimpArgs false
namespace Go.Proofs.YtcngjidojibleaaPM
open Go Go.RowKit
variable [Foreign]

variable {P : Program} {base : Nat} {σ : Sig} {pb : Pb} {w : World}

theorem asI_rel {q : PV} {n : Int} {y : Value} (h : asI q = some n) (hv : VR σ pb w q y) : ∃ k, y = .int k n := by
  cases q with
  | v x =>
    have hv : y = x := hv
    subst hv
    cases y <;> simp only [asI] at h <;> cases h
    exact ⟨_, rfl⟩
  | _ => cases h

theorem elOk_spec {e : TypeId} {r : Sh} (h : elOk P e r = true) : szOf P e = r.n ∧ r.n ≠ 0 ∧ ∃ i, P.info? e = some i := by
  unfold elOk at h
  simp only [Bool.and_eq_true, Bool.not_eq_true'] at h
  have h1 := Nat.eq_of_beq_eq_true h.1
  have h2 : r.n ≠ 0 := fun e0 => by rw [e0] at h; exact absurd h.2 (by simp)
  exact ⟨h1, h2, szOf_info (by omega)⟩

theorem build_ok {t : TypeId} {parts : List (Nat × PV)} {vals : List (Nat × Value)} {tr : Tri} (h : oBuild P t parts σ = some tr) (hs : St base σ pb w)
    (hp : parts.length = vals.length) (hv : ∀ (i n : Nat) (p : PV), parts[i]? = some (n, p) → ∃ v, vals[i]? = some (n, v) ∧ VR σ pb w p v) : SemOk P base σ pb w (Instr.build t vals.toArray) tr := by
  unfold oBuild at h
  split at h
  · rename_i z hz
    split at h
    · rename_i fs hu
      split at h
      · rename_i hall
        split at h
        · rename_i l hl
          split at h
          · rename_i cs hf
            cases h
            have hplaces : ∀ (fl : List Field), fl.all (fun fd => (P.info? fd.type).isSome) = true → (fl.mapM fun f => do pure (f.offset, ← sizeOf f.type) : Sem (List (Nat × Nat))).run P w = .ok (fl.map fun f => (f.offset, szOf P f.type)) w := by
              intro fl
              induction fl with
              | nil => intro _; rfl
              | cons f fl ih =>
                intro h
                simp only [List.all_cons, Bool.and_eq_true] at h
                obtain ⟨ti, hti⟩ := Option.isSome_iff_exists.mp h.1
                rw [List.mapM_cons, Sem.run_bind, Sem.run_bind, size_run hti, Result.andThen_ok, Sem.run_pure, Result.andThen_ok, Sem.run_bind, ih h.2]
                rfl
            have hparts : ∀ (ps : List (Nat × PV)) (l : List (Nat × Nat × PV)), partsOf P fs ps = some l → l.length = ps.length ∧ ∀ (i o s : Nat) (p : PV), l[i]? = some (o, s, p) → ∃ n fd, ps[i]? = some (n, p) ∧ fs[n]? = some fd ∧ o = fd.offset ∧ s = szOf P fd.type := by
              intro ps
              induction ps with
              | nil => intro l h; cases h; exact ⟨rfl, fun i o s p h => by simp at h⟩
              | cons q ps ih =>
                intro l h
                obtain ⟨n, p⟩ := q
                simp only [partsOf] at h
                split at h
                · rename_i fd hfd
                  split at h
                  · rename_i l' hl'
                    cases h
                    obtain ⟨h1, h2⟩ := ih _ hl'
                    refine ⟨by simp [h1], fun i o s p hi => ?_⟩
                    cases i with
                    | zero => simp at hi; obtain ⟨rfl, rfl, rfl⟩ := hi; exact ⟨n, fd, rfl, hfd, rfl, rfl⟩
                    | succ i => simpa using h2 i o s p (by simpa using hi)
                  · cases h
                · cases h
            obtain ⟨hl1, hl2⟩ := hparts _ _ hl
            obtain ⟨ys', a1, a2⟩ := fill_ok (σ := σ) (pb := pb) (w := w) (place := fun i => ((fs.toList.map fun f => (f.offset, szOf P f.type)).toArray)[i]?) (parts := vals) hf (CRs.map_v' σ pb w z.toList) (by omega) (fun i o s p hi => by
              obtain ⟨n, fd, q1, q2, rfl, rfl⟩ := hl2 i o s p hi
              obtain ⟨v, v1, v2⟩ := hv i n p q1
              exact ⟨n, v, v1, by simp [q2], v2⟩)
            refine SemOk.stay hs (z := .agg ys'.toArray) ?_ ⟨ys', rfl, a2⟩
            unfold Instr.build
            rw [Sem.run_bind, zero_run hz]
            simp only [Result.andThen_ok]
            rw [Sem.run_bind, und_run hu, Result.andThen_ok]
            simp only
            rw [Sem.run_bind, Array.mapM_eq_mapM_toList, Sem.run_map, hplaces _ hall]
            simp only [Result.andThen_ok]
            rw [show (Value.agg z).cells = z.toList.toArray by simp [Value.cells], a1]
            rfl
          · cases h
        · cases h
      · cases h
    · cases h
  · cases h

theorem buildArr_ok {t : TypeId} {parts : List (Nat × PV)} {vals : List (Nat × Value)} {tr : Tri} (h : oBuildArr P t parts σ = some tr) (hs : St base σ pb w)
    (hp : parts.length = vals.length) (hv : ∀ (i n : Nat) (p : PV), parts[i]? = some (n, p) → ∃ v, vals[i]? = some (n, v) ∧ VR σ pb w p v) : SemOk P base σ pb w (Instr.build t vals.toArray) tr := by
  unfold oBuildArr at h
  split at h
  · rename_i z hz
    split at h
    · rename_i n e hu
      split at h
      · rename_i k he
        split at h
        · rename_i hsz
          split at h
          · rename_i cs hf
            split at h
            · rename_i l hl
              cases h
              obtain ⟨ti, hti⟩ := szOf_info (P := P) (t := e) (by omega)
              obtain ⟨ys', a1, a2⟩ := fill_ok (σ := σ) (pb := pb) (w := w) (place := fun i => some (i * 1, 1)) (parts := vals) hf (CRs.map_v' σ pb w z.toList) (by simpa using hp) (fun i o s p hi => by
                rw [List.getElem?_map] at hi
                cases hq : parts[i]? with
                | none => rw [hq] at hi; cases hi
                | some q =>
                  obtain ⟨m, p'⟩ := q
                  rw [hq] at hi
                  simp at hi
                  obtain ⟨rfl, rfl, rfl⟩ := hi
                  obtain ⟨v, v1, v2⟩ := hv i _ p' hq
                  exact ⟨_, v, v1, by simp, v2⟩)
              have e3 := numsOf_spec hl a2
              refine SemOk.stay hs (z := .agg ys'.toArray) ?_ (by rw [e3]; rfl)
              unfold Instr.build
              rw [Sem.run_bind, zero_run hz]
              simp only [Result.andThen_ok]
              rw [Sem.run_bind, und_run hu, Result.andThen_ok]
              simp only
              rw [Sem.run_bind, size_run hti, hsz]
              simp only [Result.andThen_ok]
              rw [show (Value.agg z).cells = z.toList.toArray by simp [Value.cells], a1]
              rfl
            · cases h
          · cases h
        · cases h
      · cases h
    · cases h
  · cases h

theorem indexAt_slice {t e : TypeId} {r : Sh} (hu : P.underlying t = some (.slice e)) (hel : elOk P e r = true) (b o len cap : Nat) (k : IntKind) (n : Int) (h0 : 0 ≤ n) (h1 : n < len) :
    (Instr.indexAt t (.slice (some ⟨b, o, none⟩) len cap) (.int k n)).run P w = .ok (.pointer (some ⟨b, o + n.toNat * r.n, none⟩)) w := by
  obtain ⟨e1, _, ti, hti⟩ := elOk_spec hel
  unfold Instr.indexAt
  simp [asIntOf, und_run hu, h0, h1, size_run hti, e1, add_mk]
theorem indexAt_array {t e : TypeId} {r : Sh} {m : Nat} (hu : P.underlying t = some (.array m e)) (hel : elOk P e r = true) (b o : Nat) (k : IntKind) (n : Int) (h0 : 0 ≤ n) (h1 : n < m) :
    (Instr.indexAt t (.pointer (some ⟨b, o, none⟩)) (.int k n)).run P w = .ok (.pointer (some ⟨b, o + n.toNat * r.n, none⟩)) w := by
  obtain ⟨e1, _, ti, hti⟩ := elOk_spec hel
  unfold Instr.indexAt
  simp [asIntOf, und_run hu, h0, h1, size_run hti, e1, add_mk, Instr.sureAddr]

theorem indexAddr_ok {t : TypeId} {p q : PV} {y z : Value} {tr : Tri} (h : oIndexAddr P t p q σ = some tr) (h1 : tr.ok = true) (hs : St base σ pb w) (hvp : VR σ pb w p y) (hvq : VR σ pb w q z) :
    SemOk P base σ pb w (Instr.indexAt t y z) tr := by
  unfold oIndexAddr at h
  cases hn : asI q with
  | none => rw [hn] at h; cases h
  | some n =>
    rw [hn] at h
    obtain ⟨ik, rfl⟩ := asI_rel hn hvq
    simp only at h
    split at h
    · rename_i e hu
      cases p with
      | rows full r xs =>
        simp only at h
        split at h
        · rename_i hel
          cases h
          simp only [Bool.and_eq_true, decide_eq_true_eq] at h1
          obtain ⟨a, cap, rfl, hc, _, hr⟩ := hvp
          obtain ⟨b, o, vs, rfl, him, hl, hcell, he⟩ := hr n.toNat (by omega)
          refine SemOk.stay hs (indexAt_slice hu hel b o _ cap ik n h1.1 h1.2) ⟨b, o + n.toNat * r.n, vs, by simp, him, hl, hcell, ?_⟩
          rw [rdS_get r xs n.toNat (by omega)]
          exact he
        · cases h
      | own k g =>
        simp only at h
        split at h
        · rename_i r xs g' hk
          split at h
          · rename_i hc
            cases h
            simp only [Bool.and_eq_true, decide_eq_true_eq] at h1
            obtain ⟨hlt, hv⟩ := hvp
            rcases (hv _ _ _ hk).2 hc.1.symm with ⟨b, cap, hb, rfl, _, _⟩ | ⟨_, hx, _⟩
            · refine SemOk.stay hs (indexAt_slice hu hc.2 b 0 _ cap ik n h1.1 h1.2) ⟨hlt, b, n.toNat * r.n, by simp, fun r' xs' g'' hk' => ?_⟩
              rw [hk] at hk'
              cases hk'
              exact ⟨by omega, fun _ => ⟨hb, by omega, rfl⟩⟩
            · subst hx; simp at h1; omega
          · cases h
        · cases h
      | ref k i m g =>
        simp only at h
        split at h
        · rename_i r xs g' hk
          split at h
          · rename_i hc
            cases h
            simp only [Bool.and_eq_true, decide_eq_true_eq] at h1
            obtain ⟨hlt, hv⟩ := hvp
            rcases (hv _ _ _ hk).2 hc.1.symm with ⟨b, o, cap, hb, hle, ho, rfl, _⟩ | ⟨hx, _⟩
            · have ho := ho (by omega)
              subst ho
              refine SemOk.stay hs (indexAt_slice hu hc.2 b _ _ cap ik n h1.1 h1.2) ⟨hlt, b, _, rfl, fun r' xs' g'' hk' => ?_⟩
              rw [hk] at hk'
              cases hk'
              exact ⟨by omega, fun _ => ⟨hb, by omega, by simp [Nat.add_mul]⟩⟩
            · subst hx; omega
          · cases h
        · cases h
      | _ => cases h
    · rename_i m e hu
      cases p with
      | apl k i m' g =>
        simp only at h
        split at h
        · rename_i r xs g' hk
          split at h
          · rename_i hc
            cases h
            simp only [Bool.and_eq_true, decide_eq_true_eq] at h1
            obtain ⟨hlt, b, o', rfl, hv⟩ := hvp
            obtain ⟨hb, hle, rfl⟩ := (hv _ _ _ hk).2 hc.1.symm
            refine SemOk.stay hs (indexAt_array hu hc.2.1 b _ ik n h1.1 h1.2) ⟨hlt, b, _, rfl, fun r' xs' g'' hk' => ?_⟩
            rw [hk] at hk'
            cases hk'
            exact ⟨by omega, fun _ => ⟨hb, by omega, by simp [Nat.add_mul]⟩⟩
          · cases h
        · cases h
      | _ => cases h
    · cases h

theorem index_ok {t : TypeId} {p q : PV} {y z : Value} {tr : Tri} (h : oIndex P t p q σ = some tr) (h1 : tr.ok = true) (hs : St base σ pb w) (hvp : VR σ pb w p y) (hvq : VR σ pb w q z) :
    SemOk P base σ pb w (Instr.index t y z) tr := by
  unfold oIndex at h
  cases hn : asI q with
  | none => rw [hn] at h; cases h
  | some n =>
    rw [hn] at h
    obtain ⟨ik, rfl⟩ := asI_rel hn hvq
    simp only at h
    split at h
    · rename_i s hu
      cases h
      simp only [Bool.and_eq_true, decide_eq_true_eq] at h1
      have hvp : y = .string s := hvp
      subst hvp
      have hlt : n.toNat < s.size := by omega
      refine SemOk.stay hs (z := .int .u8 (s[n.toNat]).toNat) ?_ ?_
      · unfold Instr.index
        simp [asIntOf, und_run hu, h1.1, hlt]
      · show Value.int .u8 _ = Value.int .u8 _
        congr 1
        have : n.toNat < s.data.toList.length := by simpa using hlt
        have hd : n.toNat < s.data.size := hlt
        simp [bytesL, List.getD_eq_getElem?_getD, Array.getElem?_eq_getElem hd]
        rfl
    · rename_i k l m e hu
      split at h
      · rename_i k2 hk2
        split at h
        · rename_i hz
          cases h
          simp only [Bool.and_eq_true, decide_eq_true_eq] at h1
          have hvp : y = .agg (l.map (Value.int k)).toArray := hvp
          subst hvp
          have hlt : n.toNat < l.length := by omega
          refine SemOk.stay hs (z := .int k l[n.toNat]) ?_ ?_
          · unfold Instr.index part
            have ha : isAggT P e = false := by unfold isAggT; rw [hk2]
            simp [asIntOf, und_run hu, h1.1, h1.2.1, size_run' hk2, hz, agg_run hk2, ha, hlt]
          · show Value.int k _ = Value.int k _
            simp [List.getD_eq_getElem?_getD, hlt]
        · cases h
      · cases h
    · cases h

theorem extract_ok {p : PV} {i : Nat} {y : Value} {tr : Tri} (h : oExtract p i σ = some tr) (hs : St base σ pb w) (hv : VR σ pb w p y) : SemOk P base σ pb w (Instr.extract y i) tr := by
  unfold oExtract at h
  cases p with
  | tup vs =>
    simp only at h
    split at h
    · rename_i q hq
      cases h
      obtain ⟨ys, rfl, hr⟩ := hv
      have get : ∀ (vs : List PV) (ys : List Value) (i : Nat), ARs σ pb w vs ys → vs[i]? = some q → ∃ y, ys[i]? = some y ∧ AR σ pb w q y := by
        intro vs
        induction vs with
        | nil => intro ys i _ h; simp at h
        | cons v vs ih =>
          intro ys i hr hi
          cases ys with
          | nil => exact hr.elim
          | cons y ys =>
            cases i with
            | zero => simp at hi; subst hi; exact ⟨y, rfl, hr.1⟩
            | succ i => simpa using ih ys i hr.2 (by simpa using hi)
      obtain ⟨y, h1, h2⟩ := get _ _ _ hr hq
      refine SemOk.stay hs (z := y) ?_ ?_
      · unfold Instr.extract
        simp [h1]
      · cases q <;> first | exact h2 | exact h2.elim
    · cases h
  | _ => cases h

end Go.Proofs.YtcngjidojibleaaPM
