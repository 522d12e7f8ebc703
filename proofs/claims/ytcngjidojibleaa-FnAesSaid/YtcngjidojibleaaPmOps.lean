/- Single operations, reckoned by values, happen. -/
import Derived.Test.YtcngjidojibleaaPmRun
import Derived.Test.YtcngjidojibleaaPmLem11
set_option linter.unusedVariables false
set_option linter.unusedSectionVars false
set_option linter.unusedSimpArgs false
namespace Go.Proofs.YtcngjidojibleaaPM
open Go Go.RowKit
variable [Foreign]

def OpOk (P : Program) (f : Fr) (σ : Sig) (o : Oper) (p : PV) (σ' : Sig) : Prop :=
  ∀ base pb w (a : Act), St base σ pb w → FR σ pb w f a.tmps → ∀ next Q, (∀ pb' w' y, St base σ' pb' w' → Ext σ pb w σ' pb' w' → VR σ' pb' w' p y → next (a.put o.dst y) w') → o.wp P a w next Q

def VRs (σ : Sig) (pb : Pb) (w : World) : List PV → List Value → Prop
  | [], [] => True
  | p :: ps, y :: ys => VR σ pb w p y ∧ VRs σ pb w ps ys
  | _, _ => False
def FnOk (P : Program) (g : FuncId) (args : List PV) (σ : Sig) (p : PV) (σ' : Sig) : Prop :=
  ∀ base pb w (vals : List Value), St base σ pb w → VRs σ pb w args vals → Calls P g vals.toArray w fun e w' => ∃ pb' y, e = .returned y ∧ St base σ' pb' w' ∧ Ext σ pb w σ' pb' w' ∧ VR σ' pb' w' p y
def Enters (P : Program) (g : FuncId) : Prop := ∀ args w, (callFunc g args).run P w = .ok (.enter g args) w
def CallOk (P : Program) (call : CallK) : Prop :=
  ∀ (R : Type) g args σ (k : PV → Sig → Option R) r, call R g args σ k = some r → ∃ p σ', k p σ' = some r ∧ FnOk P g args σ p σ' ∧ Enters P g

theorem ev_rel {σ : Sig} {pb : Pb} {w : World} {f : Fr} {a : Act} (hf : FR σ pb w f a.tmps) (x : Operand) : VR σ pb w (ev f x) (a.eval x) := by
  cases x with
  | tmp t => exact hf t
  | const x => exact ofV_rel σ pb w x
  | global g => exact trivial
  | func g => exact ⟨[], rfl, trivial⟩
theorem evs_rel {σ : Sig} {pb : Pb} {w : World} {f : Fr} {a : Act} (hf : FR σ pb w f a.tmps) : ∀ l : List Operand, VRs σ pb w (evs f l) (l.map a.eval)
  | [] => trivial
  | x :: l => ⟨ev_rel hf x, evs_rel hf l⟩
theorem wp_value {P : Program} {o : Oper} {a : Act} {w w' : World} {y : Value} {next : Act → World → Prop} {Q : Exit → Act → World → Prop}
    (h : (execOp a.eval o).run P w = .ok (.value y) w') (hn : next (a.put o.dst y) w') : o.wp P a w next Q := by
  unfold Oper.wp; rw [h]; exact hn
theorem wp_skip' {P : Program} {o : Oper} {a : Act} {w w' : World} {next : Act → World → Prop} {Q : Exit → Act → World → Prop}
    (h : (execOp a.eval o).run P w = .ok .skip w') (hn : next (a.put o.dst undef) w') : o.wp P a w next Q := by
  unfold Oper.wp; rw [h]; exact hn

theorem pick_ok {P : Program} {f : Fr} {σ : Sig} {o : Oper} {c x y : Operand} {t : Bool} (ho : o.op = .pick c x y) (ht : ev f c = .v (.bool t)) :
    OpOk P f σ o (if t = true then ev f x else ev f y) σ := by
  intro base pb w a hs hf next Q hq
  have hc := ev_rel hf c
  rw [ht] at hc
  have hc : a.eval c = .bool t := hc
  refine wp_value (w' := w) (y := if t = true then a.eval x else a.eval y) ?_ (hq pb w _ hs (Ext.refl _ _ _) ?_)
  · unfold execOp
    rw [ho]
    simp [hc, asBool]
  · cases t
    · exact ev_rel hf y
    · exact ev_rel hf x

theorem VRs.append {σ : Sig} {pb : Pb} {w : World} : ∀ {ps qs : List PV} {ys zs : List Value}, VRs σ pb w ps ys → VRs σ pb w qs zs → VRs σ pb w (ps ++ qs) (ys ++ zs)
  | [], _, [], _, _, h => h
  | p :: ps, _, y :: ys, _, h, k => ⟨h.1, VRs.append h.2 k⟩
  | [], _, _ :: _, _, h, _ => h.elim
  | _ :: _, _, [], _, h, _ => h.elim
/-- What may be captured, or handed over: cells. -/
theorem CRs.vrs {σ : Sig} {pb : Pb} {w : World} : ∀ {ps : List PV} {ys : List Value}, CRs σ pb w ps ys → VRs σ pb w ps ys
  | [], [], _ => trivial
  | p :: ps, y :: ys, h => ⟨by
      have := h.1
      cases p <;> first | exact this | exact this.elim, CRs.vrs h.2⟩
  | [], _ :: _, h => h.elim
  | _ :: _, [], h => h.elim
theorem call_ok {P : Program} {f : Fr} {σ : Sig} {o : Oper} {g : Operand} {args : Array Operand} {ts : Array TypeId} {n : FuncId} {caps : List PV} {p : PV} {σ' : Sig}
    (ho : o.op = .call { callee := .value g, args := args, argTypes := ts }) (hg : ev f g = .fn n caps) (hf : FnOk P n (evs f args.toList ++ caps) σ p σ') (he : Enters P n) : OpOk P f σ o p σ' := by
  intro base pb w a hs hfr next Q hq
  have hgv := ev_rel hfr g
  rw [hg] at hgv
  obtain ⟨ys, hy, hc⟩ := hgv
  have hrun : (execOp a.eval o).run P w = .ok (.enter n (args.toList.map a.eval ++ ys).toArray) w := by
    unfold execOp
    rw [ho]
    simp only [resolve, hy, Deferred.ofValue]
    have := he ((args.toList.map a.eval ++ ys).toArray) w
    simp [invoke]
    rw [← this]
    congr 2
    apply Array.ext'
    simp
  unfold Oper.wp
  rw [hrun]
  refine Calls.mono (hf base pb w _ hs ((evs_rel hfr args.toList).append hc.vrs)) ?_
  rintro e w' ⟨pb', y, rfl, h1, h2, h3⟩
  exact hq pb' w' y h1 h2 h3

theorem fin_value {P : Program} {base : Nat} {σ : Sig} {pb : Pb} {w : World} {o : Oper} {a : Act} {s : Sem Value} {t : Tri} (he : execOp a.eval o = (do pure (Next.value (← s)))) (h : SemOk P base σ pb w s t) {next : Act → World → Prop} {Q : Exit → Act → World → Prop}
    (hq : ∀ pb' w' y, St base t.σ pb' w' → Ext σ pb w t.σ pb' w' → VR t.σ pb' w' t.pv y → next (a.put o.dst y) w') : o.wp P a w next Q := by
  obtain ⟨pb', w', z, h1, h2, h3, h4⟩ := h
  refine wp_value (w' := w') (y := z) ?_ (hq pb' w' z h2 h3 h4)
  rw [he, Sem.run_bind, h1]
  rfl

theorem partsE_rel {σ : Sig} {pb : Pb} {w : World} {f : Fr} {a : Act} (hf : FR σ pb w f a.tmps) (l : List (Nat × Operand)) :
    (partsE f l).length = (l.map fun p => (p.1, a.eval p.2)).length ∧ ∀ (i n : Nat) (p : PV), (partsE f l)[i]? = some (n, p) → ∃ v, (l.map fun p => (p.1, a.eval p.2))[i]? = some (n, v) ∧ VR σ pb w p v := by
  refine ⟨by simp [partsE], fun i n p h => ?_⟩
  simp only [partsE, List.getElem?_map] at h ⊢
  cases hl : l[i]? with
  | none => rw [hl] at h; cases h
  | some q =>
    rw [hl] at h
    cases h
    exact ⟨_, rfl, ev_rel hf _⟩

theorem optR_rel {σ : Sig} {pb : Pb} {w : World} {f : Fr} {a : Act} (hf : FR σ pb w f a.tmps) (x : Option Operand) : OptR σ pb w (x.map (ev f)) (x.map a.eval) := by
  cases x with
  | none => trivial
  | some x => exact ev_rel hf x

theorem isCell_crs {σ : Sig} {pb : Pb} {w : World} : ∀ {ps : List PV} {ys : List Value}, ps.all isCell = true → VRs σ pb w ps ys → CRs σ pb w ps ys
  | [], [], _, _ => trivial
  | p :: ps, y :: ys, h, hv => by
    simp only [List.all_cons, Bool.and_eq_true] at h
    refine ⟨?_, isCell_crs h.2 hv.2⟩
    have := hv.1
    have h1 := h.1
    cases p <;> first | exact this | exact absurd h1 (by simp [isCell])
  | [], _ :: _, _, hv => hv.elim
  | _ :: _, [], _, hv => hv.elim

theorem minmax_ok {P : Program} {base : Nat} {σ : Sig} {pb : Pb} {w : World} {mx : Bool} {ts : Array TypeId} {ty : TypeId} {ps : List PV} {ys : List Value} {tr : Tri} (h : oMinMax mx ps σ = some tr) (hs : St base σ pb w) (hp : VRs σ pb w ps ys) :
    SemOk P base σ pb w (if mx = true then Builtin.max_ ts ty ys.toArray else Builtin.min_ ts ty ys.toArray) tr := by
  unfold oMinMax at h
  split at h
  · rename_i k a r
    split at h
    · rename_i n hn
      cases h
      cases ys with
      | nil => exact hp.elim
      | cons y ys =>
        have hy : y = .int k a := hp.1
        subst hy
        have hc : CRs σ pb w r ys := by
          have := hp.2
          clear hp
          have key : ∀ (r : List PV) (a : Int) (n : Int) (ys : List Value), mmL mx k a r = some n → VRs σ pb w r ys → CRs σ pb w r ys := by
            intro r
            induction r with
            | nil => intro a n ys _ h; cases ys with
              | nil => exact trivial
              | cons => exact h.elim
            | cons p r ih =>
              intro a n ys hm h
              cases ys with
              | nil => exact h.elim
              | cons y ys =>
                unfold mmL at hm
                split at hm
                · rename_i e; cases e
                · rename_i e
                  cases e
                  exact ⟨h.1, ih _ _ _ hm h.2⟩
                · cases hm
          exact key _ _ _ _ hn this
        have := mmL_ok (P := P) hn hc
        refine SemOk.stay hs (z := .int k n) ?_ rfl
        cases mx
        · simpa [Builtin.min_] using this
        · simpa [Builtin.max_] using this
    · cases h
  · cases h

theorem builtin_ok {P : Program} {base : Nat} {σ : Sig} {pb : Pb} {w : World} {o : Oper} {a : Act} {b : Builtin} {args : Array Operand} {ts : Array TypeId} {f : Fr} {t : Tri} (ho : o.op = .call { callee := .builtin b, args := args, argTypes := ts })
    (h : oBuiltin P b ts.toList (evs f args.toList) σ = some t) (h1 : t.ok = true) (hs : St base σ pb w) (hf : FR σ pb w f a.tmps) {next : Act → World → Prop} {Q : Exit → Act → World → Prop}
    (hq : ∀ pb' w' y, St base t.σ pb' w' → Ext σ pb w t.σ pb' w' → VR t.σ pb' w' t.pv y → next (a.put o.dst y) w') : o.wp P a w next Q := by
  have hv := evs_rel hf args.toList
  have hargs : args.map a.eval = (args.toList.map a.eval).toArray := by apply Array.ext'; simp
  unfold oBuiltin at h
  split at h
  · rename_i t0 rest p hts hps
    rw [hps] at hv
    match hl : args.toList.map a.eval, hv with
    | [y], hv =>
      have h0 : ts[0]? = some t0 := by rw [← Array.getElem?_toList, hts]; rfl
      refine fin_value (s := Builtin.len_ ts o.type #[y]) ?_ (len_ok h0 h hs hv.1) hq
      unfold execOp
      rw [ho]
      simp only [resolve, hargs, hl]
      rfl
    | [], hv => exact hv.elim
    | _ :: _ :: _, hv => exact hv.2.elim
  · rename_i t0 u0 rest p q hts hps
    rw [hps] at hv
    match hl : args.toList.map a.eval, hv with
    | [y, z], hv =>
      have h0 : ts[0]? = some t0 := by rw [← Array.getElem?_toList, hts]; rfl
      have h1' : ts[1]? = some u0 := by rw [← Array.getElem?_toList, hts]; rfl
      refine fin_value (s := Builtin.append_ ts o.type #[y, z]) ?_ (append_ok h0 h1' h h1 hs hv.1 hv.2.1) hq
      unfold execOp
      rw [ho]
      simp only [resolve, hargs, hl]
      rfl
    | [], hv => exact hv.elim
    | [_], hv => exact hv.2.elim
    | _ :: _ :: _ :: _, hv => exact hv.2.2.elim
  · have := minmax_ok (P := P) (ts := ts) (ty := o.type) h hs hv
    rw [if_neg (by simp)] at this
    refine fin_value (s := Builtin.min_ ts o.type (args.toList.map a.eval).toArray) ?_ this hq
    unfold execOp
    rw [ho]
    simp only [resolve, hargs]
    rfl
  · have := minmax_ok (P := P) (ts := ts) (ty := o.type) h hs hv
    rw [if_pos rfl] at this
    refine fin_value (s := Builtin.max_ ts o.type (args.toList.map a.eval).toArray) ?_ this hq
    unfold execOp
    rw [ho]
    simp only [resolve, hargs]
    rfl
  · rename_i t0 rest p q hts hps
    rw [hps] at hv
    match hl : args.toList.map a.eval, hv with
    | [y, z], hv =>
      have h0 : ts[0]? = some t0 := by rw [← Array.getElem?_toList, hts]; rfl
      refine fin_value (s := Builtin.copy_ ts o.type #[y, z]) ?_ (copy_ok h0 h hs hv.1 hv.2.1) hq
      unfold execOp
      rw [ho]
      simp only [resolve, hargs, hl]
      rfl
    | [], hv => exact hv.elim
    | [_], hv => exact hv.2.elim
    | _ :: _ :: _ :: _, hv => exact hv.2.2.elim
  · cases h

theorem stp_ok {P : Program} {f : Fr} {σ : Sig} {o : Oper} {t : Tri} (ht : stp P f σ o = some t) (h1 : t.ok = true) : OpOk P f σ o t.pv t.σ := by
  intro base pb w a hs hf next Q hq
  unfold stp at ht
  split at ht
  · rename_i x ho
    cases ht
    exact wp_value (by unfold execOp; rw [ho]; rfl) (hq pb w _ hs (Ext.refl _ _ _) (ev_rel hf x))
  · rename_i x ho
    cases ht
    exact wp_value (by unfold execOp; rw [ho]; rfl) (hq pb w _ hs (Ext.refl _ _ _) (ev_rel hf x))
  · rename_i x ho
    have hv := ev_rel hf x
    obtain ⟨rfl, hy⟩ := nil_ok ht hv
    refine wp_value (y := a.eval x) ?_ (hq pb w _ hs (Ext.refl _ _ _) hv)
    unfold execOp
    rw [ho]
    rcases hy with ⟨ad, e⟩ | ⟨g, c, e⟩ <;> simp only [e] <;> rfl
  · rename_i s x i ho
    exact fin_value (by unfold execOp; rw [ho]) (fieldAddr_ok ht hs (ev_rel hf x)) hq
  · rename_i s x i ho
    exact fin_value (by unfold execOp; rw [ho]) (field_ok ht hs (ev_rel hf x)) hq
  · rename_i s x ho
    exact fin_value (by unfold execOp; rw [ho]) (load_ok ht hs (ev_rel hf x)) hq
  · rename_i s x y ho
    obtain ⟨w', a1, a2, a3, a4⟩ := store_ok ht h1 hs (ev_rel hf x) (ev_rel hf y)
    refine wp_skip' (w' := w') ?_ (hq pb w' undef a2 a3 (by rw [a4]; trivial))
    unfold execOp
    rw [ho]
    show (do Instr.storeAt s (a.eval x) (a.eval y); pure Next.skip : Sem Next).run P w = _
    rw [Sem.run_bind, a1]
    rfl
  · rename_i s ho
    exact fin_value (by unfold execOp; rw [ho]) (alloc_ok ht hs) hq
  · rename_i s x ho
    exact fin_value (by unfold execOp; rw [ho]) (box_ok ht h1 hs (ev_rel hf x)) hq
  · rename_i s parts ho
    obtain ⟨e1, e2⟩ := partsE_rel hf parts.toList
    have ht' : SemOk P base σ pb w (Instr.build s (parts.toList.map fun p => (p.1, a.eval p.2)).toArray) t := by
      cases hb : isArrT P s with
      | true => rw [hb] at ht; exact buildArr_ok ht hs e1 e2
      | false => rw [hb] at ht; exact build_ok ht hs e1 e2
    refine fin_value (s := Instr.build s (parts.toList.map fun p => (p.1, a.eval p.2)).toArray) ?_ ht' hq
    unfold execOp
    rw [ho]
    simp only
    congr 2
    apply Array.ext'
    simp
  · rename_i s x i ho
    exact fin_value (by unfold execOp; rw [ho]) (indexAddr_ok ht h1 hs (ev_rel hf x) (ev_rel hf i)) hq
  · rename_i s x i ho
    exact fin_value (by unfold execOp; rw [ho]) (index_ok ht h1 hs (ev_rel hf x) (ev_rel hf i)) hq
  · rename_i s x lo hi ho
    exact fin_value (by unfold execOp; rw [ho]; rfl) (slice_ok ht h1 hs (ev_rel hf x) (optR_rel hf lo) (optR_rel hf hi)) hq
  · rename_i s x lo hi mx ho
    exact fin_value (by unfold execOp; rw [ho]; rfl) (slice3_ok ht h1 hs (ev_rel hf x) (optR_rel hf lo) (ev_rel hf hi) (ev_rel hf mx)) hq
  · rename_i x i ho
    exact fin_value (by unfold execOp; rw [ho]) (extract_ok ht hs (ev_rel hf x)) hq
  · rename_i g first captured ho
    split at ht
    · rename_i hc
      cases ht
      have hv := isCell_crs hc.2 (evs_rel hf captured.toList)
      refine wp_value (y := .func (.func g) #[] (captured.toList.map a.eval).toArray) ?_ (hq pb w _ hs (Ext.refl _ _ _) ⟨_, rfl, hv⟩)
      unfold execOp
      rw [ho]
      have : first = #[] := Array.eq_empty_of_size_eq_zero hc.1
      subst this
      simp [Instr.makeFunc]
      apply Array.ext'
      simp
    · cases ht
  · rename_i s x ho
    exact fin_value (by unfold execOp; rw [ho]) (arrayAt_ok ht h1 hs (ev_rel hf x)) hq
  · rename_i s d x ho
    exact fin_value (by unfold execOp; rw [ho]) (convert_ok ht hs (ev_rel hf x)) hq
  · rename_i s l c ho
    exact fin_value (by unfold execOp; rw [ho]) (makeSlice_ok ht h1 hs (ev_rel hf l) (ev_rel hf c)) hq
  · rename_i s n parts ho
    obtain ⟨e1, e2⟩ := partsE_rel hf parts.toList
    refine fin_value (s := Instr.buildSlice s n (parts.toList.map fun p => (p.1, a.eval p.2)).toArray) ?_ (buildSlice_ok ht hs e1 e2) hq
    unfold execOp
    rw [ho]
    simp only
    congr 2
    apply Array.ext'
    simp
  · rename_i op s x y yt ho
    exact fin_value (by unfold execOp; rw [ho]) (bin_ok ht h1 hs (ev_rel hf x) (ev_rel hf y)) hq
  · rename_i op s x ho
    exact fin_value (by unfold execOp; rw [ho]) (un_ok ht hs (ev_rel hf x)) hq
  · rename_i b args ts ho
    exact builtin_ok ho ht h1 hs hf hq
  · cases ht

theorem mat_step {t : Nat} {s : Sh} {f : Fr} {σ : Sig} {y0 : PV} (hy : f.get t = y0) (hy0 : y0 = .v (.slice none 0 0) ∨ ∃ s', y0 = .rows true s' []) {base : Nat} {pb : Pb} {w : World} {tmps : Array Value} (hs : St base σ pb w) (hf : FR σ pb w f tmps) :
    ∃ pb', St base (σ ++ [.rows s [] 0]) pb' w ∧ Ext σ pb w (σ ++ [.rows s [] 0]) pb' w ∧ FR (σ ++ [.rows s [] 0]) pb' w ((t, .own σ.length 0) :: f) tmps := by
  have hl := hs.len
  have he : Ext σ pb w (σ ++ [.rows s [] 0]) (pb ++ [none]) w := by
    refine ⟨rfl, rfl, rfl, Nat.le_refl _, ⟨fun b hb => ⟨⟨hb.1, fun hm => ?_, hb.2.2⟩, rfl⟩, fun _ _ => rfl⟩, fun b c e f h => ⟨c, f, h, rfl⟩, PlExt.snoc σ pb hl _ _⟩
    rcases List.mem_append.mp hm with h | h
    · exact hb.2.1 h
    · simp at h
  refine ⟨pb ++ [none], ⟨hs.bs, by simp [hl], fun i j b hi hj => ?_, fun i b hi => ?_, fun b hb => ⟨(hs.frn b hb).1, fun hm => ?_⟩, fun k p q hk hq => ?_⟩, he, fun u => ?_⟩
  · have hlt : ∀ (i b : Nat), (pb ++ [none])[i]? = some (some b) → pb[i]? = some (some b) := by
      intro i b h
      by_cases q : i < pb.length
      · rwa [List.getElem?_append_left q] at h
      · rw [List.getElem?_append_right (by omega)] at h
        have : i - pb.length = 0 := by have := (List.getElem?_eq_some_iff.mp h).1; simp at this; omega
        rw [this] at h
        simp at h
    exact hs.inj i j b (hlt _ _ hi) (hlt _ _ hj)
  · by_cases q : i < pb.length
    · rw [List.getElem?_append_left q] at hi; exact hs.bnd i b hi
    · rw [List.getElem?_append_right (by omega)] at hi
      have : i - pb.length = 0 := by have := (List.getElem?_eq_some_iff.mp hi).1; simp at this; omega
      rw [this] at hi
      simp at hi
  · rcases List.mem_append.mp hm with h | h
    · exact (hs.frn b hb).2 h
    · simp at h
  · by_cases q1 : k < σ.length
    · rw [List.getElem?_append_left q1] at hk
      rw [List.getElem?_append_left (by omega)] at hq
      exact PlaceR.ext he (fun _ _ => rfl) (hs.pl k p q hk hq)
    · rw [List.getElem?_append_right (by omega)] at hk
      rw [List.getElem?_append_right (by omega)] at hq
      have : k - σ.length = 0 := by have := (List.getElem?_eq_some_iff.mp hk).1; simp at this; omega
      rw [this] at hk
      rw [show k - pb.length = 0 by omega] at hq
      simp at hk hq
      subst hk
      subst hq
      rfl
  · simp only [Fr.get]
    by_cases e : t = u
    · subst e
      rw [show Nat.beq t t = true from Nat.beq_refl t]
      have hv := hf t
      rw [hy] at hv
      have : ∃ a, tmps.getD t undef = .slice a 0 0 := by
        rcases hy0 with rfl | ⟨s', rfl⟩
        · exact ⟨none, hv⟩
        · obtain ⟨a, cap, e1, _, e2, _⟩ := hv
          have := e2 rfl
          simp at this
          subst this
          exact ⟨a, e1⟩
      obtain ⟨a, ea⟩ := this
      refine ⟨by simp, fun r xs g' hk => ?_⟩
      rw [List.getElem?_append_right (Nat.le_refl _)] at hk
      simp at hk
      obtain ⟨rfl, hk, rfl⟩ := hk
      obtain rfl := eq_of_heq hk
      refine ⟨Nat.le_refl _, fun _ => .inr ⟨?_, rfl, a, ea⟩⟩
      rw [List.getElem?_append_right (by omega), hl]
      simp
    · have hne : Nat.beq t u = false := by
        cases hb : Nat.beq t u
        · rfl
        · exact absurd (Nat.eq_of_beq_eq_true hb) e
      rw [hne]
      exact (hf u).ext he

end Go.Proofs.YtcngjidojibleaaPM
