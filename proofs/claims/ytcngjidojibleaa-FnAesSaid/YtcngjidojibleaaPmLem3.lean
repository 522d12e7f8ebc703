/- Single operations: arrays, stores, new variables. -/
import Derived.Test.YtcngjidojibleaaPmLem2
set_option linter.unusedVariables false
set_option linter.unusedSectionVars false
set_option linter.unusedSimpArgs false
namespace Go.Proofs.YtcngjidojibleaaPM
open Go Go.RowKit
variable [Foreign]

variable {P : Program} {base : Nat} {σ : Sig} {pb : Pb} {w : World}

theorem agg_load {t : TypeId} {d : TypeDesc} {b o : Nat} {ys : List Value} (hu : P.underlying t = some d) (ha : isAggT P t = true) (hl : ys.length = szOf P t)
    (hc : ∀ j v, ys[j]? = some v → w.cell? ⟨b, o + j, none⟩ = some v) : (loadVar t ⟨b, o, none⟩).run P w = .ok (.agg ys.toArray) w := by
  unfold loadVar
  rw [Sem.run_bind, agg_run hu, Result.andThen_ok, ha]
  simp only [if_true]
  rw [Sem.run_bind, size_run' hu, Result.andThen_ok, Sem.run_bind, ← hl, run_loadCells_list _ _ _ (fun j v hj => by rw [add_mk]; exact hc j v hj)]
  rfl

theorem loadArr_ok {t e : TypeId} {n : Nat} {k : IntKind} (hu : P.underlying t = some (.array n e)) (hz : szOf P t = n) {p q : PV} {y : Value} (h : loadArr k n σ p = some q) (hs : St base σ pb w) (hv : VR σ pb w p y) :
    ∃ z, (Instr.loadAt t y).run P w = .ok z w ∧ VR σ pb w q z := by
  have ha : isAggT P t = true := by unfold isAggT; rw [hu]
  cases p with
  | apr k' xs m =>
    simp only [loadArr] at h
    split at h
    · rename_i hc
      obtain ⟨rfl, rfl, hpos⟩ := hc
      cases h
      obtain ⟨h1, a, rfl, hr, _⟩ := hv
      obtain ⟨b, o, vs, rfl, him, _⟩ := hr 0 (by omega)
      refine ⟨.agg ((xs.take m).map (Value.int k')).toArray, agg_load hu ha (by simp; omega) (fun j v hj => ?_), rfl⟩
      rw [List.getElem?_map, List.getElem?_take] at hj
      split at hj
      · rename_i hjm
        obtain ⟨b', o', vs', e', him', hl', hc', he'⟩ := hr j (by omega)
        cases e'
        simp only [ER] at he'
        subst he'
        have := hc' 0 (by omega)
        simp at this
        rw [this]
        rw [List.getElem?_eq_getElem (by omega)] at hj
        simpa using hj
      · cases hj
    · cases h
  | apl pk i m g =>
    simp only [loadArr] at h
    split at h
    · rename_i k' xs g' hk
      split at h
      · rename_i hc
        obtain ⟨rfl, rfl, rfl⟩ := hc
        cases h
        obtain ⟨hlt, b, o', rfl, hv⟩ := hv
        obtain ⟨hb, hle, rfl⟩ := (hv _ _ _ hk).2 rfl
        obtain ⟨c, e', f, h1, h2, h3, h4⟩ := St.rows (hs := hs) hk hb
        refine ⟨.agg (((xs.drop i).take m).map (Value.int k')).toArray, agg_load hu ha (by simp; omega) (fun j v hj => ?_), rfl⟩
        rw [List.getElem?_map, List.getElem?_take] at hj
        split at hj
        · rw [List.getElem?_drop] at hj
          obtain ⟨vs, a1, a2, a3⟩ := h4 (i + j) (by omega)
          simp only [ER] at a3
          subst a3
          have := a2 0 (by simp [Sh.n])
          rw [cell_mk w b _ h1]
          simp [Sh.n] at this ⊢
          rw [this]
          rw [List.getElem?_eq_getElem (by omega)] at hj
          simpa using hj
        · cases hj
      · cases h
    · cases h
  | _ => cases h

theorem load_ok {t : TypeId} {p : PV} {y : Value} {tr : Tri} (h : oLoad P t p σ = some tr) (hs : St base σ pb w) (hv : VR σ pb w p y) :
    SemOk P base σ pb w (Instr.loadAt t y) tr := by
  unfold oLoad at h
  cases hu : P.underlying t with
  | none => rw [hu] at h; cases h
  | some d =>
    rw [hu] at h
    have gen : (match loadP (isAggT P t) (szOf P t) σ p with | some q => some (⟨true, q, σ⟩ : Tri) | none => none) = some tr → SemOk P base σ pb w (Instr.loadAt t y) tr := by
      intro h
      cases hq : loadP (isAggT P t) (szOf P t) σ p with
      | none => rw [hq] at h; cases h
      | some q =>
        rw [hq] at h
        cases h
        obtain ⟨z, hz, hvz⟩ := loadP_ok hu hq hs hv
        exact SemOk.stay hs hz hvz
    cases d with
    | array n e =>
      simp only at h
      split at h
      · split at h
        · rename_i k hk hz
          split at h
          · rename_i q hq
            cases h
            obtain ⟨z, hz', hvz⟩ := loadArr_ok hu hz hq hs hv
            exact SemOk.stay hs hz' hvz
          · cases h
        · cases h
      · cases h
    | _ => exact gen h

theorem load_at {t : TypeId} {p : PV} {y : Value} {tr : Tri} (h : oLoad P t p σ = some tr) (hs : St base σ pb w) (hv : VR σ pb w p y) :
    ∃ z, (Instr.loadAt t y).run P w = .ok z w ∧ VR σ pb w tr.pv z := by
  unfold oLoad at h
  cases hu : P.underlying t with
  | none => rw [hu] at h; cases h
  | some d =>
    rw [hu] at h
    have gen : (match loadP (isAggT P t) (szOf P t) σ p with | some q => some (⟨true, q, σ⟩ : Tri) | none => none) = some tr → ∃ z, (Instr.loadAt t y).run P w = .ok z w ∧ VR σ pb w tr.pv z := by
      intro h
      cases hq : loadP (isAggT P t) (szOf P t) σ p with
      | none => rw [hq] at h; cases h
      | some q =>
        rw [hq] at h
        cases h
        obtain ⟨z, hz, hvz⟩ := loadP_ok hu hq hs hv
        exact ⟨z, hz, hvz⟩
    cases d with
    | array n e =>
      simp only at h
      split at h
      · split at h
        · rename_i k hk hz
          split at h
          · rename_i q hq
            cases h
            obtain ⟨z, hz', hvz⟩ := loadArr_ok hu hz hq hs hv
            exact ⟨z, hz', hvz⟩
          · cases h
        · cases h
      · cases h
    | _ => exact gen h

/-! ### stores -/
def setL (l : List Value) (o : Nat) : List Value → List Value
  | [] => l
  | v :: r => setL (l.set o v) (o + 1) r
theorem setL_arr (c : Array Value) (o : Nat) (l : List Value) : (setArr c o l).toList = setL c.toList o l := by
  induction l generalizing c o with
  | nil => rfl
  | cons v l ih => simp only [setArr, setL]; rw [ih]; simp
theorem setL_length (l : List Value) (o : Nat) (ys : List Value) : (setL l o ys).length = l.length := by
  induction ys generalizing l o with
  | nil => rfl
  | cons v ys ih => simp [setL, ih]
theorem setL_get (ys : List Value) : ∀ (l : List Value) (o p : Nat), o + ys.length ≤ l.length → (setL l o ys)[p]? = if o ≤ p ∧ p < o + ys.length then ys[p - o]? else l[p]? := by
  induction ys with
  | nil => intro l o p _; rw [if_neg (by simp)]; rfl
  | cons v ys ih =>
    intro l o p h
    simp only [List.length_cons] at h
    simp only [setL]
    rw [ih _ _ _ (by simp; omega)]
    by_cases h1 : o + 1 ≤ p ∧ p < o + 1 + ys.length
    · rw [if_pos h1, if_pos (by simp; omega)]
      rw [show p - o = (p - (o + 1)) + 1 by omega, List.getElem?_cons_succ]
    · rw [if_neg h1]
      by_cases h2 : p = o
      · subst h2
        rw [if_pos (by simp), List.getElem?_set_self (by omega)]
        simp
      · rw [if_neg (by simp; omega), List.getElem?_set, if_neg (Ne.symm h2)]
theorem CRs.set : ∀ {ps : List PV} {ys : List Value} {p : PV} {y : Value} (o : Nat), CRs σ pb w ps ys → CR σ pb w p y → CRs σ pb w (ps.set o p) (ys.set o y)
  | [], [], _, _, _, _, _ => trivial
  | _ :: _, _ :: _, _, _, 0, h, k => ⟨k, h.2⟩
  | _ :: _, _ :: _, _, _, o + 1, h, k => ⟨h.1, CRs.set o h.2 k⟩
  | [], _ :: _, _, _, _, h, _ => h.elim
  | _ :: _, [], _, _, _, h, _ => h.elim
theorem CRs.setL : ∀ {xs : List PV} {ys : List Value} {ps : List PV} {zs : List Value} (o : Nat), CRs σ pb w ps zs → CRs σ pb w xs ys → CRs σ pb w (setCells ps o xs) (setL zs o ys)
  | [], [], _, _, _, h, _ => h
  | x :: xs, y :: ys, _, _, o, h, k => CRs.setL (o + 1) (h.set o k.1) k.2
  | [], _ :: _, _, _, _, _, k => k.elim
  | _ :: _, [], _, _, _, _, k => k.elim

theorem live_one {p : PV} {y : Value} (hl : liveCell σ p = true) (hv : VR σ pb w p y) : CR σ pb w p y ∧ oneB y = true := by
  cases p with
  | v x =>
    refine ⟨hv, ?_⟩
    have hv : y = x := hv
    subst hv
    cases y <;> first | rfl | exact absurd hl (by simp [liveCell])
  | rows a b c => refine ⟨hv, ?_⟩; obtain ⟨_, _, e, _⟩ := (show CR σ pb w (.rows a b c) y from hv); rw [e]; rfl
  | ptr k o =>
    refine ⟨hv, ?_⟩
    obtain ⟨_, b, e, _⟩ := (show CR σ pb w (.ptr k o) y from hv)
    rw [e]; rfl
  | rp k i off g =>
    refine ⟨hv, ?_⟩
    obtain ⟨_, b, o, e, _⟩ := (show CR σ pb w (.rp k i off g) y from hv)
    rw [e]; rfl
  | apl k i n g =>
    refine ⟨hv, ?_⟩
    obtain ⟨_, b, o, e, _⟩ := (show CR σ pb w (.apl k i n g) y from hv)
    rw [e]; rfl
  | ep r x off =>
    refine ⟨hv, ?_⟩
    obtain ⟨b, o, vs, e, _⟩ := (show CR σ pb w (.ep r x off) y from hv)
    rw [e]; rfl
  | own k g =>
    refine ⟨hv, ?_⟩
    simp only [liveCell] at hl
    split at hl
    · rename_i r xs g' hk
      rcases ((show CR σ pb w (.own k g) y from hv).2 _ _ _ hk).2 (of_decide_eq_true hl).symm with ⟨b, cap, _, e, _⟩ | ⟨_, _, a, e⟩
      · rw [e]; rfl
      · rw [e]; rfl
    · cases hl
  | ref k i n g =>
    refine ⟨hv, ?_⟩
    simp only [liveCell] at hl
    split at hl
    · rename_i r xs g' hk
      rcases ((show CR σ pb w (.ref k i n g) y from hv).2 _ _ _ hk).2 (of_decide_eq_true hl).symm with ⟨b, o, cap, _, _, _, e, _⟩ | ⟨_, a, e⟩
      · rw [e]; rfl
      · rw [e]; rfl
    · cases hl
  | _ => cases hl

theorem cells_one {y : Value} (h : oneB y = true) : y.cells = #[y] := by
  cases y <;> first | rfl | cases h

theorem pv_cells {x : PV} {y : Value} (hl : (pvCells x).all (liveCell σ) = true) (hv : VR σ pb w x y) : ∃ ys : List Value, y.cells = ys.toArray ∧ CRs σ pb w (pvCells x) ys ∧ ys.all oneB = true := by
  have many : ∀ {cs : List PV} {ys : List Value}, cs.all (liveCell σ) = true → CRs σ pb w cs ys → ys.all oneB = true := by
    intro cs
    induction cs with
    | nil => intro ys _ h; cases ys with
      | nil => rfl
      | cons => exact h.elim
    | cons c cs ih => intro ys h1 h2; cases ys with
      | nil => exact h2.elim
      | cons y ys =>
        simp only [List.all_cons, Bool.and_eq_true] at h1 ⊢
        have hc := h2.1
        refine ⟨(live_one (w := w) (pb := pb) h1.1 ?_).2, ih h1.2 h2.2⟩
        cases c <;> first | exact hc | exact hc.elim
  have single : (pvCells x) = [x] → ∃ ys : List Value, y.cells = ys.toArray ∧ CRs σ pb w (pvCells x) ys ∧ ys.all oneB = true := by
    intro e
    rw [e] at hl ⊢
    simp only [List.all_cons, List.all_nil, Bool.and_true] at hl
    obtain ⟨h1, h2⟩ := live_one hl hv
    exact ⟨[y], cells_one h2, ⟨h1, trivial⟩, by simp [h2]⟩
  cases x with
  | agg cs => obtain ⟨ys, rfl, hr⟩ := hv; exact ⟨ys, rfl, hr, many hl hr⟩
  | _ => exact single rfl

theorem parse_er : ∀ {r : Sh} {ps rest : List PV} {x : r.den} {ys : List Value}, r.parse ps = some (x, rest) → CRs σ pb w ps ys → ∃ u v, ys = u ++ v ∧ ER pb w r x u ∧ CRs σ pb w rest v := by
  intro r
  induction r with
  | int k =>
    intro ps rest x ys h hr
    simp only [Sh.parse] at h
    split at h
    · rename_i k' n t
      split at h
      · rename_i e
        cases h
        subst e
        match ys, hr with
        | y :: ys, hr => obtain ⟨h1, h2⟩ := hr; have h1 : y = .int k' x := h1; subst h1; exact ⟨[.int k' x], ys, rfl, rfl, h2⟩
        | [], hr => exact hr.elim
      · cases h
    · cases h
  | bool =>
    intro ps rest x ys h hr
    simp only [Sh.parse] at h
    split at h
    · cases h
      match ys, hr with
      | y :: ys, hr => obtain ⟨h1, h2⟩ := hr; have h1 : y = .bool x := h1; subst h1; exact ⟨[.bool x], ys, rfl, rfl, h2⟩
      | [], hr => exact hr.elim
    · cases h
  | str =>
    intro ps rest x ys h hr
    simp only [Sh.parse] at h
    split at h
    · cases h
      match ys, hr with
      | y :: ys, hr => obtain ⟨h1, h2⟩ := hr; have h1 : y = .string x := h1; subst h1; exact ⟨[.string x], ys, rfl, rfl, h2⟩
      | [], hr => exact hr.elim
    · cases h
  | rows r _ =>
    intro ps rest x ys h hr
    simp only [Sh.parse] at h
    split at h
    · rename_i full r' xs t
      split at h
      · rename_i e
        subst e
        cases h
        match ys, hr with
        | y :: ys, hr =>
          obtain ⟨h1, h2⟩ := hr
          obtain ⟨a, cap, rfl, hc, _, hrow⟩ := h1
          exact ⟨[.slice a _ cap], ys, rfl, ⟨a, cap, rfl, hc, hrow⟩, h2⟩
        | [], hr => exact hr.elim
      · cases h
    · cases h
      match ys, hr with
      | y :: ys, hr =>
        obtain ⟨h1, h2⟩ := hr
        have h1 : y = .slice none 0 0 := h1
        subst h1
        exact ⟨[.slice none 0 0], ys, rfl, ⟨none, 0, rfl, Nat.le_refl _, fun i hi => absurd hi (by simp)⟩, h2⟩
      | [], hr => exact hr.elim
    · cases h
  | pair a b iha ihb =>
    intro ps rest x ys h hr
    simp only [Sh.parse] at h
    cases ha : a.parse ps with
    | none => rw [ha] at h; cases h
    | some q =>
      obtain ⟨x1, t⟩ := q
      rw [ha] at h
      simp only at h
      cases hb : b.parse t with
      | none => rw [hb] at h; cases h
      | some q =>
        obtain ⟨x2, u⟩ := q
        rw [hb] at h
        cases h
        obtain ⟨u1, v1, rfl, e1, r1⟩ := iha ha hr
        obtain ⟨u2, v2, rfl, e2, r2⟩ := ihb hb r1
        exact ⟨u1 ++ u2, v2, by simp, ⟨u1, u2, rfl, e1, e2⟩, r2⟩
  | unit =>
    intro ps rest x ys h hr
    simp only [Sh.parse] at h
    cases h
    exact ⟨[], ys, rfl, rfl, hr⟩

theorem ER.one : ∀ {r : Sh} {x : r.den} {vs : List Value}, ER pb w r x vs → ∀ v ∈ vs, oneB v = true := by
  intro r
  induction r with
  | int k => intro x vs h v hv; simp only [ER] at h; subst h; simp at hv; subst hv; rfl
  | bool => intro x vs h v hv; simp only [ER] at h; subst h; simp at hv; subst hv; rfl
  | str => intro x vs h v hv; simp only [ER] at h; subst h; simp at hv; subst hv; rfl
  | unit => intro x vs h v hv; simp only [ER] at h; subst h; simp at hv
  | rows r _ => rintro x vs ⟨a, cap, rfl, _⟩ v hv; simp at hv; subst hv; rfl
  | pair a b iha ihb =>
    rintro x vs ⟨u, u', rfl, hu, hu'⟩ v hv
    rcases List.mem_append.mp hv with h | h
    · exact iha hu v h
    · exact ihb hu' v h

theorem storeVar_run {t : TypeId} {i : TypeInfo} (hi : P.info? t = some i) {b o : Nat} {c : Array Value} {e : TypeId} {f : Nat × Nat} (hb : w.heap[b]? = some (.cells c e f)) (hf : Unfrozen f c.size) {y : Value} {ys : List Value}
    (hy : y.cells = ys.toArray) (hl : ys.length = szOf P t) (ho : o + ys.length ≤ c.size) (h1 : ys.all oneB = true) : ∃ w', (Instr.storeAt t (.pointer (some ⟨b, o, none⟩)) y).run P w = .ok () w' ∧ Upd w b c (setArr c o ys) w' := by
  obtain ⟨w', hr, hu⟩ := storeCells_run (P := P) b o ys 0 w c e f hb hf (by omega) h1
  refine ⟨w', ?_, by simpa using hu⟩
  unfold Instr.storeAt storeVar
  simp only [Instr.sureAddr, Sem.run_bind, Sem.run_pure, Result.andThen_ok, size_run hi, hy]
  rw [if_neg (by simp; omega)]
  simpa using hr

/-- A row's cells, one element turned. -/
theorem row_set {r : Sh} {xs : List r.den} {c : Array Value} {i off : Nat} {x' : r.den} {vs vs' ys : List Value} {w' : World} (hi : i < xs.length) (hsz : xs.length * r.n ≤ c.size)
    (hel : ∀ i (h : i < xs.length), ∃ vs, vs.length = r.n ∧ (∀ j, j < r.n → c[i * r.n + j]? = vs[j]?) ∧ ER pb w' r xs[i] vs)
    (hvs : vs.length = r.n) (hc : ∀ j, j < r.n → c[i * r.n + j]? = vs[j]?) (hoff : off + ys.length ≤ r.n) (hvs' : vs' = setL vs off ys) (hx : ER pb w' r x' vs') :
    ∀ q (h : q < (xs.set i x').length), ∃ vs, vs.length = r.n ∧ (∀ j, j < r.n → (setArr c (i * r.n + off) ys)[q * r.n + j]? = vs[j]?) ∧ ER pb w' r (xs.set i x')[q] vs := by
  intro q hq
  have hq' : q < xs.length := by simpa using hq
  have hbound : i * r.n + r.n ≤ c.size := by
    have : (i + 1) * r.n ≤ xs.length * r.n := Nat.mul_le_mul_right _ hi
    rw [Nat.succ_mul] at this
    omega
  have get : ∀ p, (setArr c (i * r.n + off) ys)[p]? = if i * r.n + off ≤ p ∧ p < i * r.n + off + ys.length then ys[p - (i * r.n + off)]? else c[p]? := by
    intro p
    rw [← Array.getElem?_toList, setL_arr, setL_get _ _ _ _ (by simp; omega)]
    simp
  by_cases e : q = i
  · subst e
    refine ⟨vs', by rw [hvs', setL_length, hvs], fun j hj => ?_, by simpa using hx⟩
    rw [get, hvs', setL_get _ _ _ _ (by omega)]
    by_cases h1 : off ≤ j ∧ j < off + ys.length
    · rw [if_pos (by omega), if_pos h1]
      congr 1
      omega
    · rw [if_neg (by omega), if_neg h1]
      exact hc j hj
  · obtain ⟨us, u1, u2, u3⟩ := hel q hq'
    refine ⟨us, u1, fun j hj => ?_, by rw [List.getElem_set_ne (Ne.symm e)]; exact u3⟩
    rw [get, if_neg, u2 j hj]
    intro ⟨h1, h2⟩
    rcases Nat.lt_or_gt_of_ne e with hlt | hgt
    · have : (q + 1) * r.n ≤ i * r.n := Nat.mul_le_mul_right _ hlt
      rw [Nat.succ_mul] at this
      omega
    · have : (i + 1) * r.n ≤ q * r.n := Nat.mul_le_mul_right _ hgt
      rw [Nat.succ_mul] at this
      omega

theorem storeP_ok {t : TypeId} {a x : PV} {y z : Value} {σ' : Sig} (h : storeP σ a x = some σ') (hz : (pvCells x).length = szOf P t) (hl : (pvCells x).all (liveCell σ) = true) (hs : St base σ pb w)
    (hva : VR σ pb w a y) (hvx : VR σ pb w x z) (hne : szOf P t ≠ 0) : ∃ w', (Instr.storeAt t y z).run P w = .ok () w' ∧ St base σ' pb w' ∧ Ext σ pb w σ' pb w' := by
  obtain ⟨ti, hti⟩ := szOf_info hne
  obtain ⟨ys, hy, hcr, h1⟩ := pv_cells hl hvx
  have hlen := hcr.length
  cases a with
  | ptr k o =>
    simp only [storeP] at h
    split at h
    · rename_i cs hk
      split at h
      · rename_i hle
        cases h
        obtain ⟨hlt, b, rfl, hva⟩ := hva
        have hb := hva _ hk
        obtain ⟨c, e, f, a1, a2, a3⟩ := St.cells (hs := hs) hk hb
        have hcl := a3.length
        simp at hcl
        obtain ⟨w', hr, hu⟩ := storeVar_run hti a1 a2 hy (by omega) (o := o) (by omega) h1
        have he := hu.ext hb hk (p' := .cells (setCells cs o (pvCells x))) (by trivial) hs.nf
        refine ⟨w', hr, hu.st hs hb hk (by trivial) ?_, he⟩
        obtain ⟨e', f', b1, b2⟩ := hu.at_
        rw [a1] at b1
        cases b1
        refine ⟨_, _, _, b2, by rw [hu.sz]; exact a2, ?_⟩
        rw [setL_arr]
        exact (a3.ext he).setL o (hcr.ext he)
      · cases h
    · cases h
  | rp k i off g =>
    simp only [storeP] at h
    split at h
    · rename_i r xs g' hk
      split at h
      · rename_i hle
        split at h
        · rename_i x' hp
          cases h
          obtain ⟨hlt, b, o', rfl, hva⟩ := hva
          obtain ⟨hb, hi, rfl⟩ := (hva _ _ _ hk).2 hle.1.symm
          obtain ⟨c, e, f, a1, a2, a3, a4⟩ := St.rows (hs := hs) hk hb
          obtain ⟨vs, v1, v2, v3⟩ := a4 i hi
          have hbound : i * r.n + r.n ≤ c.size := by
            have : (i + 1) * r.n ≤ xs.length * r.n := Nat.mul_le_mul_right _ hi
            rw [Nat.succ_mul] at this
            omega
          obtain ⟨w', hr, hu⟩ := storeVar_run hti a1 a2 hy (by omega) (o := i * r.n + off) (by omega) h1
          have hal : Alike (.rows r xs g') (.rows r (xs.set i x') g') := ⟨rfl, Nat.le_refl _, fun _ => by simp⟩
          have he := hu.ext hb hk hal hs.nf
          refine ⟨w', hr, hu.st hs hb hk hal ?_, he⟩
          obtain ⟨e', f', b1, b2⟩ := hu.at_
          rw [a1] at b1
          cases b1
          rw [rdS_get r xs i hi] at hp
          obtain ⟨u, v, e1, e2, e3⟩ := parse_er hp ((v3.crs (σ := σ)).setL off hcr)
          have hv0 : v = [] := by cases v with
            | nil => rfl
            | cons => exact e3.elim
          subst hv0
          simp only [List.append_nil] at e1
          refine ⟨_, _, _, b2, by rw [hu.sz]; exact a2, by rw [hu.sz]; simpa using a3, ?_⟩
          refine row_set hi a3 (fun i h => ?_) v1 v2 (by omega) e1.symm (e2.mono he.keeps)
          obtain ⟨vs, q1, q2, q3⟩ := a4 i h
          exact ⟨vs, q1, q2, q3.mono he.keeps⟩
        · cases h
      · cases h
    · cases h
  | _ => cases h

end Go.Proofs.YtcngjidojibleaaPM
