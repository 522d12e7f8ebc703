/- A region whose order is open: the text's order stands for every order. -/
import Derived.Test.YtcngjidojibleaaPmDraw
set_option linter.unusedVariables false
set_option linter.unusedSectionVars false
set_option linter.unusedSimpArgs false
namespace Go.Proofs.YtcngjidojibleaaPM
open Go Go.RowKit
variable [Foreign]

variable {P : Program} {call : CallK} {R : Type} {n : Nat} {all : List Oper}

/-! ### static facts -/
theorem bmOf_bit {acc : List Nat} {b : Nat} : ∀ {l : List Edge}, Nat.testBit (bmOf acc l) b = true → ∃ e ∈ l, Region.binds .any e = true ∧ (e.on = b ∨ Nat.testBit (acc.getD e.on 0) b = true)
  | [], h => by simp [bmOf] at h
  | e :: l, h => by
    unfold bmOf at h
    cases hb : Region.binds .any e with
    | false =>
      rw [hb] at h
      obtain ⟨e', h1, h2⟩ := bmOf_bit (l := l) h
      exact ⟨e', List.mem_cons_of_mem _ h1, h2⟩
    | true =>
      rw [hb] at h
      simp only [cond_true, Nat.testBit_or, Bool.or_eq_true, Nat.testBit_two_pow, decide_eq_true_eq] at h
      rcases h with (h | h) | h
      · exact ⟨e, List.mem_cons_self .., hb, .inl h⟩
      · exact ⟨e, List.mem_cons_self .., hb, .inr h⟩
      · obtain ⟨e', h1, h2⟩ := bmOf_bit (l := l) h
        exact ⟨e', List.mem_cons_of_mem _ h1, h2⟩
theorem edgesOk_on {i : Nat} {l : List Edge} (h : edgesOk i l = true) : ∀ e ∈ l, Region.binds .any e = true → e.on < i := by
  induction l with
  | nil => intro e he; cases he
  | cons x l ih =>
    intro e he hb
    unfold edgesOk at h
    rw [Bool.and_eq_true] at h
    rcases List.mem_cons.1 he with rfl | he
    · have h1 := h.1
      rw [hb] at h1
      simpa [Nat.blt_eq] using h1
    · exact ih h.2 e he hb
theorem allEdges_on {l : List Oper} : ∀ {i : Nat}, allEdges i l = true → ∀ j o, l[j]? = some o → ∀ e ∈ o.after.toList, Region.binds .any e = true → e.on < i + j := by
  induction l with
  | nil => intro i _ j o ho; simp at ho
  | cons x l ih =>
    intro i h j o ho
    unfold allEdges at h
    rw [Bool.and_eq_true] at h
    cases j with
    | zero => cases ho; exact edgesOk_on h.1
    | succ j =>
      have := ih h.2 j o (by simpa using ho)
      intro e he hb
      have := this e he hb
      omega
theorem bms_spec : ∀ (l : List Oper) (acc : List Nat), allEdges acc.length l = true → (∀ i, i < acc.length → (bms acc l).getD i 0 = acc.getD i 0) ∧
    ∀ i o, l[i]? = some o → ∀ b, Nat.testBit ((bms acc l).getD (acc.length + i) 0) b = true → ∃ e ∈ o.after.toList, Region.binds .any e = true ∧ (e.on = b ∨ Nat.testBit ((bms acc l).getD e.on 0) b = true) := by
  intro l
  induction l with
  | nil => intro acc _; exact ⟨fun i _ => rfl, fun i o h => by simp at h⟩
  | cons x l ih =>
    intro acc hA
    simp only [allEdges, Bool.and_eq_true] at hA
    obtain ⟨h1, h2⟩ := ih (acc ++ [bmOf acc x.after.toList]) (by simpa using hA.2)
    have k1 : ∀ i, i < acc.length → (bms acc (x :: l)).getD i 0 = acc.getD i 0 := by
      intro i hi
      simp only [bms]
      rw [h1 i (by simp; omega)]
      simp [List.getD_eq_getElem?_getD, List.getElem?_append_left hi]
    refine ⟨k1, fun i o ho b hb => ?_⟩
    cases i with
    | zero =>
      cases ho
      simp only [bms, Nat.add_zero] at hb
      rw [h1 acc.length (by simp)] at hb
      simp [List.getD_eq_getElem?_getD] at hb
      obtain ⟨e, m1, m2, m3⟩ := bmOf_bit hb
      refine ⟨e, m1, m2, ?_⟩
      rw [k1 e.on (edgesOk_on hA.1 e m1 m2)]
      exact m3
    | succ i =>
      have := h2 i o (by simpa using ho) b (by simpa [bms, Nat.add_assoc, Nat.add_comm 1 i] using hb)
      simpa [bms] using this

theorem hasN_mem {t : Nat} {l : List Nat} (h : hasN t l = false) : t ∉ l := by
  induction l with
  | nil => simp
  | cons x l ih =>
    unfold hasN at h
    rw [Bool.or_eq_false_iff] at h
    intro hm
    rcases List.mem_cons.1 hm with rfl | hm
    · rw [Nat.beq_refl] at h; cases h.1
    · exact ih h.2 hm
theorem dstIn_not {o : Oper} {l : List Nat} (h : dstIn o l = false) {d : Nat} (hd : o.dst = some d) : d ∉ l := by
  unfold dstIn at h
  rw [hd] at h
  exact hasN_mem h
theorem sameDst_not {o p : Oper} (h : sameDst o p = false) {d : Nat} (hd : o.dst = some d) : p.dst ≠ some d := by
  intro e
  unfold sameDst at h
  rw [hd, e] at h
  simp only [Nat.beq_refl] at h
  cases h
theorem pairs_spec {bm : List Nat} {cls : List Cl} {j : Nat} : ∀ {i : Nat}, pairsB all bm cls j i = true → ∀ k, k < i → apartB all bm cls k j = true
  | i + 1, h, k, hk => by
    simp only [pairsB, Bool.and_eq_true] at h
    by_cases e : k = i
    · subst e; exact h.1
    · exact pairs_spec h.2 k (by omega)
theorem allPairs_spec {bm : List Nat} {cls : List Cl} : ∀ {m : Nat}, allPairs all bm cls m = true → ∀ i j, i < j → j < m → apartB all bm cls i j = true
  | m + 1, h, i, j, hi, hj => by
    simp only [allPairs, Bool.and_eq_true] at h
    by_cases e : j = m
    · subst e; exact pairs_spec h.1 i hi
    · exact allPairs_spec h.2 i j hi (by omega)
theorem selfOk_spec {l : List Oper} (h : selfOk all l = true) : ∀ o ∈ l, dstIn o (readsOf all o) = false := by
  induction l with
  | nil => intro o ho; cases ho
  | cons x l ih =>
    intro o ho
    unfold selfOk at h
    rw [Bool.and_eq_true] at h
    rcases List.mem_cons.1 ho with rfl | ho
    · simpa using h.1
    · exact ih h.2 o ho

/-! ### one step, wherever it comes -/
def wpGo (P : Program) (all : List Oper) (Q : Exit → Act → World → Prop) (o : Oper) (K : Act → World → Prop) (a : Act) (w : World) : Prop :=
  if Region.wanted o (yielded all.toArray a.tmps) then o.wp P a w K Q ∨ (o.asks P a w ∧ LetsOut Q) else K (a.put o.dst undef) w
def GStep (P : Program) (all : List Oper) (g : Fr) (σ : Sig) (o : Oper) (p : PV) (s : Sig) : Prop :=
  ∀ base pb w (a : Act), St base σ pb w → FR σ pb w g a.tmps → ∀ K Q, (∀ pb' w' y, St base s pb' w' → Ext σ pb w s pb' w' → VR s pb' w' p y → K (a.put o.dst y) w') → wpGo P all Q o K a w
structure StepD (P : Program) (all : List Oper) (F : Nat → PV) (σ : Sig) (o : Oper) (c : Cl) (p : PV) (s : Sig) : Prop where
  keep : eff c σ s
  run : ∀ g : Fr, (∀ t ∈ readsOf all o, g.get t = F t) → GStep P all g σ o p s
  free : isW c = false → ∀ g : Fr, (∀ t ∈ readsOf all o, g.get t = F t) → ∀ σ2, agr c σ σ2 → GStep P all g σ2 o p σ2

def QuietOk (P : Program) (call : CallK) (qt : FuncId → List PV → Sig → Cl) : Prop :=
  ∀ (R : Type) g args σ (k : PV → Sig → Option R) r, call R g args σ k = some r → ∃ p s, k p s = some r ∧ FnOk P g args σ p s ∧ Enters P g ∧ eff (qt g args σ) σ s ∧ (isW (qt g args σ) = false → ∀ σ2, agr (qt g args σ) σ σ2 → FnOk P g args σ2 p σ2)

theorem mem_tmpsOf {t : Nat} : ∀ {l : List Operand}, Operand.tmp t ∈ l → t ∈ tmpsOf l
  | x :: l, h => by
    rcases List.mem_cons.1 h with rfl | h
    · exact List.mem_cons_self ..
    · have := mem_tmpsOf h
      cases x <;> simp [tmpsOf, this]
theorem ev_agree {f g : Fr} {l : List Operand} (h : ∀ t ∈ tmpsOf l, g.get t = f.get t) : ∀ x ∈ l, ev f x = ev g x := by
  intro x hx
  cases x with
  | tmp t => exact (h t (mem_tmpsOf hx)).symm
  | _ => rfl

theorem opK_step {alt : List Nat} {qt : FuncId → List PV → Sig → Cl} (hq : QuietOk P call qt) {f : Fr} {σ : Sig} {o : Oper} {k : PV → Sig → Option R} {r : R} (h : opK P call (dstIn o alt) f σ o k = some r) :
    ∃ p s, k p s = some r ∧ eff (clsA alt qt f σ o) σ s ∧ (∀ g : Fr, (∀ t ∈ tmpsOf o.op.operands.toList, g.get t = f.get t) → OpOk P g σ o p s) ∧
      (isW (clsA alt qt f σ o) = false → ∀ g : Fr, (∀ t ∈ tmpsOf o.op.operands.toList, g.get t = f.get t) → ∀ σ2, agr (clsA alt qt f σ o) σ σ2 → OpOk P g σ2 o p σ2) := by
  unfold opK at h
  split at h
  · rename_i c x y ho
    have hev : ∀ g : Fr, (∀ t ∈ tmpsOf o.op.operands.toList, g.get t = f.get t) → ev f c = ev g c ∧ ev f x = ev g x ∧ ev f y = ev g y := by
      intro g hg
      have := ev_agree hg
      rw [ho] at this
      exact ⟨this _ (by simp [Op.operands]), this _ (by simp [Op.operands]), this _ (by simp [Op.operands])⟩
    have hcl : clsA alt qt f σ o = .pure := by unfold clsA clsOf; rw [ho]; cases dstIn o alt <;> rfl
    rw [hcl]
    split at h
    · rename_i t ht
      cases t with
      | true =>
        refine ⟨_, _, h, rfl, fun g hg => ?_, fun _ g hg σ2 _ => ?_⟩ <;> obtain ⟨e1, e2, e3⟩ := hev g hg <;> rw [e2] <;> exact pick_ok ho (e1 ▸ ht)
      | false =>
        refine ⟨_, _, h, rfl, fun g hg => ?_, fun _ g hg σ2 _ => ?_⟩ <;> obtain ⟨e1, e2, e3⟩ := hev g hg <;> rw [e3] <;> exact pick_ok ho (e1 ▸ ht)
    · cases h
  · rename_i c args ts ho
    split at h
    · rename_i m caps hg
      have hev : ∀ g : Fr, (∀ t ∈ tmpsOf o.op.operands.toList, g.get t = f.get t) → ev f c = ev g c ∧ evs f args.toList = evs g args.toList := by
        intro g hg
        have := ev_agree hg
        rw [ho] at this
        exact ⟨this _ (by simp [Op.operands, Call.operands]), evs_congr fun z hz => this z (by simp [Op.operands, Call.operands]; right; simpa using hz)⟩
      have hcl : clsA alt qt f σ o = qt m (evs f args.toList ++ caps) σ := by
        unfold clsA clsOf
        rw [ho]
        simp only [hg]
        cases dstIn o alt <;> rfl
      obtain ⟨p, s, hk, hf, he, hef, hkd⟩ := hq _ _ _ _ _ _ h
      rw [← hcl] at hef hkd
      have hrun : ∀ g : Fr, (∀ t ∈ tmpsOf o.op.operands.toList, g.get t = f.get t) → OpOk P g σ o p s := fun g hg' => by
        obtain ⟨e1, e2⟩ := hev g hg'
        exact call_ok ho (e1 ▸ hg) (e2 ▸ hf) he
      refine ⟨p, s, hk, hef, hrun, fun h0 g hg' σ2 ha => ?_⟩
      obtain ⟨e1, e2⟩ := hev g hg'
      exact call_ok ho (e1 ▸ hg) (e2 ▸ hkd h0 σ2 ha) he
    · cases h
  · rename_i hne1 hne2
    split at h
    · rename_i t ht
      obtain ⟨h1, h2⟩ := chk_some h
      cases hal : dstIn o alt with
      | true =>
        rw [hal] at ht
        simp only [cond_true] at ht
        obtain ⟨p1, p2⟩ := oAlt_cls (qt := qt) hal ht
        refine ⟨_, _, h2, p1, fun g hg => ?_, fun h0 g hg σ2 ha => ?_⟩
        · exact oAlt_ok (by rw [← oAlt_congr (ev_agree hg)]; exact ht) h1
        · have := p2 h0 σ2 ha
          simp only at this
          rw [oAlt_congr (ev_agree hg)] at this
          exact oAlt_ok this h1
      | false =>
      rw [hal] at ht
      simp only [cond_false] at ht
      have hcl : clsA alt qt f σ o = clsOf qt f σ o := by unfold clsA; rw [hal]; rfl
      rw [hcl]
      obtain ⟨p1, p2⟩ := stp_cls (qt := qt) (fun g args ts e => hne2 g args ts e) ht
      refine ⟨_, _, h2, p1, fun g hg => ?_, fun h0 g hg σ2 ha => ?_⟩
      · exact stp_ok (by rw [← stp_congr (ev_agree hg)]; exact ht) h1
      · have := p2 h0 σ2 ha
        simp only at this
        rw [stp_congr (ev_agree hg)] at this
        exact stp_ok this h1
    · cases h

/-! ### the run in the text's order -/
def putF (F : Nat → PV) (d : Option Nat) (p : PV) : Nat → PV := fun t => match d with
  | some d => if d = t then p else F t
  | none => F t
theorem put_putF {f : Fr} {F : Nat → PV} (h : ∀ t, f.get t = F t) (d : Option Nat) (p : PV) (t : Nat) : (f.put d p).get t = putF F d p t := by
  cases d with
  | none => exact h t
  | some d =>
    simp only [Fr.put, Fr.get, putF]
    by_cases e : d = t
    · subst e; simp [show Nat.beq d d = true from Nat.beq_refl d]
    · rw [nbeq e]; simp [e, h t]
theorem shadow_get {f : Fr} {F : Nat → PV} (h : ∀ t, f.get t = F t) {d : Nat} {p : PV} (hd : f.get d = p) (t : Nat) : Fr.get ((d, p) :: f) t = F t := by
  simp only [Fr.get]
  by_cases e : d = t
  · subst e; rw [show Nat.beq d d = true from Nat.beq_refl d]; rw [← h d]; exact hd.symm
  · rw [nbeq e]; exact h t

structure Trace (P : Program) (all : List Oper) (l : List Oper) (F0 : Nat → PV) (σ0 : Sig) (p : Nat → PV) (c : Nat → Cl) (s : Nat → Sig) (F : Nat → Nat → PV) : Prop where
  f0 : F 0 = F0
  s0 : s 0 = σ0
  step : ∀ i o, l[i]? = some o → StepD P all (F i) (s i) o (c i) (p i) (s (i + 1)) ∧ F (i + 1) = putF (F i) o.dst (p i)

def consN {α : Type} (x : α) (f : Nat → α) : Nat → α
  | 0 => x
  | i + 1 => f i
theorem Trace.cons {l : List Oper} {o : Oper} {F0 : Nat → PV} {σ0 s1 : Sig} {p0 : PV} {c0 : Cl} {p : Nat → PV} {c : Nat → Cl} {s : Nat → Sig} {F : Nat → Nat → PV}
    (h0 : StepD P all F0 σ0 o c0 p0 s1) (h : Trace P all l (putF F0 o.dst p0) s1 p c s F) : Trace P all (o :: l) F0 σ0 (consN p0 p) (consN c0 c) (consN σ0 s) (consN F0 F) where
  f0 := rfl
  s0 := rfl
  step := fun i x hx => by
    cases i with
    | zero =>
      cases hx
      refine ⟨?_, ?_⟩
      · show StepD P all F0 σ0 o c0 p0 (s 0)
        rw [h.s0]; exact h0
      · exact h.f0
    | succ i => exact h.step i x (by simpa using hx)

theorem yielded_of {σ : Sig} {pb : Pb} {w : World} {g : Fr} {a : Act} {j d : Nat} {t : Bool} (hj : gdst all j = some d) (hd : g.get d = .v (.bool t)) (hf : FR σ pb w g a.tmps) : yielded all.toArray a.tmps j = some t := by
  have hv := hf d
  rw [hd] at hv
  have hv : a.tmps.getD d undef = .bool t := hv
  have hlt : a.tmps[d]? = some (.bool t) := by
    rw [Array.getD_eq_getD_getElem?] at hv
    cases he : a.tmps[d]? with
    | none => rw [he] at hv; cases hv
    | some z => rw [he] at hv; exact congrArg some hv
  unfold yielded
  unfold gdst at hj
  have : (all.toArray[j]?) = all[j]? := by simp
  rw [this]
  cases hal : all[j]? with
  | none => rw [hal] at hj; cases hj
  | some z =>
    rw [hal] at hj
    simp only at hj
    simp [hj, hlt]

theorem opsD_sound {alt : List Nat} {qt : FuncId → List PV → Sig → Cl} (hq : QuietOk P call qt) : ∀ (l : List Oper) (cl : List Cl) (f : Fr) (F0 : Nat → PV) (σ : Sig) (k : List Cl → Fr → Sig → Option R) (r : R),
    (∀ t, f.get t = F0 t) → opsD P call alt qt all l cl f σ k = some r →
    ∃ p cs s F f', k (cl ++ cs) f' (s l.length) = some r ∧ (∀ t, f'.get t = F l.length t) ∧ ∃ c, (∀ i, i < l.length → cs.getD i .pure = c i) ∧ Trace P all l F0 σ p c s F := by
  intro l
  induction l with
  | nil =>
    intro cl f F0 σ k r hf h
    exact ⟨fun _ => .dead, [], fun _ => σ, fun _ => F0, f, by simpa [opsD] using h, hf, fun _ => .pure, fun i hi => by simp at hi, rfl, rfl, fun i o ho => by simp at ho⟩
  | cons o l ih =>
    intro cl f F0 σ k r hf h
    -- a step done, then the rest
    have glue : ∀ (g : Fr) (c0 : Cl) (p0 : PV) (s1 : Sig), (∀ t, g.get t = F0 t) → StepD P all F0 σ o c0 p0 s1 → opsD P call alt qt all l (cl ++ [c0]) (g.put o.dst p0) s1 k = some r →
        ∃ p cs s F f', k (cl ++ cs) f' (s (o :: l).length) = some r ∧ (∀ t, f'.get t = F (o :: l).length t) ∧ ∃ c, (∀ i, i < (o :: l).length → cs.getD i .pure = c i) ∧ Trace P all (o :: l) F0 σ p c s F := by
      intro g c0 p0 s1 hg hs h
      obtain ⟨p, cs, s, F, f', k1, k2, c, k3, k4⟩ := ih _ _ (putF F0 o.dst p0) _ _ _ (put_putF hg o.dst p0) h
      refine ⟨consN p0 p, c0 :: cs, consN σ s, consN F0 F, f', by simpa [consN] using k1, by simpa [consN] using k2, consN c0 c, fun i hi => ?_, k4.cons hs⟩
      cases i with
      | zero => rfl
      | succ i => simpa [consN] using k3 i (by simpa using hi)
    -- a step that is wanted
    have one : ∀ (g : Fr), (∀ t, g.get t = F0 t) → (∀ (g' : Fr), (∀ t ∈ readsOf all o, g'.get t = F0 t) → ∀ σ pb w (a : Act), FR σ pb w g' a.tmps → Region.wanted o (yielded all.toArray a.tmps) = true) →
        opK P call (dstIn o alt) g σ o (fun p σ' => opsD P call alt qt all l (cl ++ [clsA alt qt g σ o]) (g.put o.dst p) σ' k) = some r →
        ∃ p cs s F f', k (cl ++ cs) f' (s (o :: l).length) = some r ∧ (∀ t, f'.get t = F (o :: l).length t) ∧ ∃ c, (∀ i, i < (o :: l).length → cs.getD i .pure = c i) ∧ Trace P all (o :: l) F0 σ p c s F := by
      intro g hg hw h
      obtain ⟨p0, s1, h1, h2, h3, h4⟩ := opK_step hq h
      have sub : ∀ (g' : Fr), (∀ t ∈ readsOf all o, g'.get t = F0 t) → ∀ t ∈ tmpsOf o.op.operands.toList, g'.get t = g.get t := fun g' hg' t ht => by
        rw [hg t]; exact hg' t (List.mem_append_right _ ht)
      refine glue g _ p0 s1 hg ⟨h2, fun g' hg' => ?_, fun h0 g' hg' σ2 ha => ?_⟩ h1
      · intro base pb w a hs hf K Q hk
        unfold wpGo
        rw [if_pos (hw g' hg' _ _ _ _ hf)]
        exact .inl (h3 g' (sub g' hg') base pb w a hs hf _ _ hk)
      · intro base pb w a hs hf K Q hk
        unfold wpGo
        rw [if_pos (hw g' hg' _ _ _ _ hf)]
        exact .inl (h4 h0 g' (sub g' hg') σ2 ha base pb w a hs hf _ _ hk)
    have skip : ∀ (g : Fr), (∀ t, g.get t = F0 t) → (∀ (g' : Fr), (∀ t ∈ readsOf all o, g'.get t = F0 t) → ∀ σ pb w (a : Act), FR σ pb w g' a.tmps → ¬ Region.wanted o (yielded all.toArray a.tmps) = true) →
        opsD P call alt qt all l (cl ++ [.pure]) (g.put o.dst undefV) σ k = some r →
        ∃ p cs s F f', k (cl ++ cs) f' (s (o :: l).length) = some r ∧ (∀ t, f'.get t = F (o :: l).length t) ∧ ∃ c, (∀ i, i < (o :: l).length → cs.getD i .pure = c i) ∧ Trace P all (o :: l) F0 σ p c s F := by
      intro g hg hw h
      have : ∀ σ2 (g' : Fr), (∀ t ∈ readsOf all o, g'.get t = F0 t) → GStep P all g' σ2 o undefV σ2 := by
        intro σ2 g' hg' base pb w a hs hf K Q hk
        unfold wpGo
        rw [if_neg (hw g' hg' _ _ _ _ hf)]
        exact hk pb w undef hs (Ext.refl _ _ _) rfl
      exact glue g .pure undefV σ hg ⟨rfl, this σ, fun _ g' hg' σ2 _ => this σ2 g' hg'⟩ h
    unfold opsD at h
    cases hg : o.guard with
    | none =>
      rw [hg] at h
      exact one f hf (fun g' hg' σ pb w a _ => by simp [Region.wanted, hg]) h
    | some jw =>
      obtain ⟨j, want⟩ := jw
      rw [hg] at h
      simp only at h
      cases hj : gdst all j with
      | none => rw [hj] at h; cases h
      | some d =>
        rw [hj] at h
        simp only at h
        have hmem : d ∈ readsOf all o := by unfold readsOf; rw [hg]; simp [hj]
        split at h
        · rename_i t ht
          have hF : F0 d = .v (.bool t) := by rw [← hf d]; exact ht
          have hy : ∀ (g' : Fr), (∀ t ∈ readsOf all o, g'.get t = F0 t) → ∀ σ pb w (a : Act), FR σ pb w g' a.tmps → yielded all.toArray a.tmps j = some t :=
            fun g' hg' σ pb w a hfr => yielded_of hj (by rw [hg' d hmem, hF]) hfr
          cases t <;> cases want <;> simp only [sel] at h
          · exact one _ (shadow_get hf ht) (fun g' hg' σ pb w a hfr => by simp [Region.wanted, hg, hy g' hg' σ pb w a hfr]) h
          · exact skip _ (shadow_get hf ht) (fun g' hg' σ pb w a hfr => by simp [Region.wanted, hg, hy g' hg' σ pb w a hfr]) h
          · exact skip _ (shadow_get hf ht) (fun g' hg' σ pb w a hfr => by simp [Region.wanted, hg, hy g' hg' σ pb w a hfr]) h
          · exact one _ (shadow_get hf ht) (fun g' hg' σ pb w a hfr => by simp [Region.wanted, hg, hy g' hg' σ pb w a hfr]) h
        · rename_i u ht
          have hF : F0 d = .v (.tuple u) := by rw [← hf d]; exact ht
          exact skip _ hf (fun g' hg' σ pb w a hfr => by simp [Region.wanted, hg, yielded_none hj (by rw [hg' d hmem, hF]) hfr]) h
        · cases h

/-! ### every order -/
def cnt (L : Array Bool) : Nat → Nat
  | 0 => 0
  | i + 1 => cnt L i + (if L.getD i false = true then 0 else 1)
theorem cnt_above {L : Array Bool} {i : Nat} : ∀ m, m ≤ i → cnt (L.setIfInBounds i true) m = cnt L m := by
  intro m
  induction m with
  | zero => intro _; rfl
  | succ m ih =>
    intro hm
    have e : i ≠ m := by omega
    simp only [cnt]
    rw [ih (by omega)]
    simp [Array.getD_eq_getD_getElem?, Array.getElem?_setIfInBounds, e]
theorem cnt_set {L : Array Bool} {i : Nat} (hi : i < L.size) (hL : L.getD i false = false) : ∀ m, i < m → cnt (L.setIfInBounds i true) m + 1 = cnt L m := by
  intro m
  induction m with
  | zero => intro h; omega
  | succ m ih =>
    intro hm
    simp only [cnt]
    by_cases e : i = m
    · subst e
      rw [cnt_above i (Nat.le_refl _), hL]
      simp [Array.getD_eq_getD_getElem?, Array.getElem?_setIfInBounds, hi]
    · have := ih (by omega)
      have : (L.setIfInBounds i true).getD m false = L.getD m false := by simp [Array.getD_eq_getD_getElem?, Array.getElem?_setIfInBounds, e]
      rw [this]
      omega
theorem cnt_zero {L : Array Bool} : ∀ {m : Nat}, cnt L m = 0 → ∀ i, i < m → L.getD i false = true := by
  intro m
  induction m with
  | zero => intro _ i hi; omega
  | succ m ih =>
    intro h i hi
    simp only [cnt] at h
    by_cases e : i = m
    · subst e
      cases hL : L.getD i false with
      | true => rfl
      | false => rw [hL] at h; simp at h
    · exact ih (by omega) i (by omega)

theorem seq_same {s : Nat → Sig} {a b : Nat} (hab : a ≤ b) (h : ∀ k, a ≤ k → k < b → s (k + 1) = s k) : s b = s a := by
  induction b with
  | zero => have : a = 0 := by omega
            rw [this]
  | succ b ih =>
    by_cases e : a = b + 1
    · rw [e]
    · rw [h b (by omega) (by omega), ih (by omega) fun k h1 h2 => h k h1 (by omega)]

def Canon (all : List Oper) (F0 : Nat → PV) (p : Nat → PV) (L : Nat → Prop) (F : Nat → PV) : Prop :=
  (∀ j o x, all[j]? = some o → L j → o.dst = some x → F x = p j) ∧ ∀ x, (∀ j o, all[j]? = some o → L j → o.dst ≠ some x) → F x = F0 x
theorem Canon.put {F0 : Nat → PV} {p : Nat → PV} {L : Nat → Prop} {F : Nat → PV} {i : Nat} {o : Oper} (h : Canon all F0 p L F) (ho : all[i]? = some o)
    (hd : ∀ j q x, all[j]? = some q → j ≠ i → o.dst = some x → q.dst ≠ some x) : Canon all F0 p (fun j => j = i ∨ L j) (putF F o.dst (p i)) := by
  constructor
  · intro j q x hq hL hx
    by_cases e : j = i
    · subst e
      rw [ho] at hq; cases hq
      simp [putF, hx]
    · have hL : L j := hL.resolve_left e
      have := h.1 j q x hq hL hx
      unfold putF
      cases hod : o.dst with
      | none => exact this
      | some d =>
        have hne : d ≠ x := fun e2 => hd j q d hq e hod (e2 ▸ hx)
        simp [hne, this]
  · intro x hx
    have := h.2 x fun j q hq hL => hx j q hq (.inr hL)
    unfold putF
    cases hod : o.dst with
    | none => exact this
    | some d =>
      have hne : d ≠ x := fun e2 => hx i o ho (.inl rfl) (e2 ▸ hod)
      simp [hne, this]
theorem Canon.same {F0 : Nat → PV} {p : Nat → PV} {L M : Nat → Prop} {F G : Nat → PV} (h : Canon all F0 p L F) (k : Canon all F0 p M G) {x : Nat}
    (hx : ∀ j o, all[j]? = some o → o.dst = some x → (L j ↔ M j)) : F x = G x := by
  by_cases e : ∃ j o, all[j]? = some o ∧ L j ∧ o.dst = some x
  · obtain ⟨j, o, h1, h2, h3⟩ := e
    rw [h.1 j o x h1 h2 h3, k.1 j o x h1 ((hx j o h1 h3).1 h2) h3]
  · have e1 : ∀ j o, all[j]? = some o → L j → o.dst ≠ some x := fun j o h1 h2 h3 => e ⟨j, o, h1, h2, h3⟩
    rw [h.2 x e1, k.2 x fun j o h1 h2 h3 => e1 j o h1 ((hx j o h1 h3).2 h2) h3]

theorem apart_spec {bm : List Nat} {cls : List Cl} {i j : Nat} {o q : Oper} (ho : all[i]? = some o) (hq : all[j]? = some q) (h : apartB all bm cls i j = true) :
    sameDst o q = false ∧ (Nat.testBit (bm.getD j 0) i = true ∨ (dstIn o (readsOf all q) = false ∧ dstIn q (readsOf all o) = false ∧
      (isW (cls.getD i .pure) = true → hits (cls.getD i .pure) (cls.getD j .pure) = false) ∧ (isW (cls.getD j .pure) = true → hits (cls.getD j .pure) (cls.getD i .pure) = false))) := by
  unfold apartB at h
  rw [ho, hq] at h
  simp only [Bool.and_eq_true, Bool.or_eq_true, Bool.not_eq_true'] at h
  refine ⟨h.1, h.2.imp id fun k => ⟨k.1.1, k.1.2, fun e => ?_, fun e => ?_⟩⟩
  · have := (Bool.or_eq_false_iff.1 k.2).1
    rw [e] at this
    simpa using this
  · have := (Bool.or_eq_false_iff.1 k.2).2
    rw [e] at this
    simpa using this

theorem okDsts_lt {l : List Oper} (h : okDsts n l = true) : ∀ o ∈ l, ∀ t, o.dst = some t → t < n := by
  induction l with
  | nil => intro o ho; cases ho
  | cons x l ih =>
    intro o ho t ht
    unfold okDsts at h
    rw [Bool.and_eq_true] at h
    rcases List.mem_cons.1 ho with rfl | ho
    · have := h.1
      rw [ht] at this
      simpa using this
    · exact ih h.2 o ho t ht
theorem mem_ready {L : Array Bool} (hL : L.size = all.length) {i : Nat} : i ∈ Region.ready .any all.toArray L ↔
    L.getD i false = false ∧ ∃ o, all[i]? = some o ∧ ∀ e ∈ o.after.toList, Region.binds .any e = true → L.getD e.on false = true := by
  unfold Region.ready
  rw [List.mem_filter, List.mem_range]
  constructor
  · rintro ⟨h1, h2⟩
    have h1 : i < all.length := by simpa using h1
    have ho : all.toArray[i]? = some all[i] := by simp [h1]
    rw [ho] at h2
    simp only [Option.map_some, Option.getD_some, Bool.and_eq_true, Bool.not_eq_true'] at h2
    refine ⟨?_, all[i], List.getElem?_eq_getElem h1, fun e he hb => ?_⟩
    · have := h2.1
      simp [Array.getD_eq_getD_getElem?, hL, h1] at this ⊢
      exact this
    · have := Array.all_eq_true'.1 h2.2 e (by simpa using he)
      simpa [hb] using this
  · rintro ⟨h1, o, ho, h2⟩
    have hlt : i < all.length := (List.getElem?_eq_some_iff.1 ho).1
    have ho' : all.toArray[i]? = some o := by simpa using ho
    refine ⟨by simpa using hlt, ?_⟩
    rw [ho']
    simp only [Option.map_some, Option.getD_some, Bool.and_eq_true, Bool.not_eq_true']
    refine ⟨?_, Array.all_eq_true'.2 fun e he => ?_⟩
    · simp [Array.getD_eq_getD_getElem?, hL, hlt] at h1 ⊢
      exact h1
    · have := h2 e (by simpa using he)
      cases hb : Region.binds .any e with
      | false => rfl
      | true => simpa using this hb

theorem draw_sound (hm : P.follows .mixedOrders = true) {id : Nat} {cs : List Cl} {F0 : Nat → PV} {σ0 : Sig} {p : Nat → PV} {c : Nat → Cl} {s : Nat → Sig} {F : Nat → Nat → PV} {f' : Fr}
    (hcs : ∀ i, i < all.length → cs.getD i .pure = c i) (ht : Trace P all all F0 σ0 p c s F) (hf' : ∀ t, f'.get t = F all.length t) (hd : drawOk all cs = true) (hok : okDsts n all = true)
    {base : Nat} {pb : Pb} {w : World} {a : Act} {f : Fr} (hf0 : ∀ t, f.get t = F0 t) (hs : St base σ0 pb w) (hf : FR σ0 pb w f a.tmps) (hn : a.tmps.size = n) {Q : Exit → Act → World → Prop}
    (hq : ∀ pb' w' (a' : Act), St base (s all.length) pb' w' → Ext σ0 pb w (s all.length) pb' w' → FR (s all.length) pb' w' f' a'.tmps → a'.tmps.size = n → Kp all a a' → Q .normal a' w') :
    (Code.region id all.toArray true).wp P Q a w := by
  unfold drawOk at hd
  simp only [Bool.and_eq_true] at hd
  obtain ⟨hE, hself, hpairs⟩ := hd
  obtain ⟨-, hbm⟩ := bms_spec all [] hE
  have hon := allEdges_on hE
  generalize hbe : bms [] all = bm at hbm hpairs
  simp only [List.length_nil, Nat.zero_add] at hbm hon
  have lt_of {i : Nat} {o : Oper} (h : all[i]? = some o) : i < all.length := (List.getElem?_eq_some_iff.1 h).1
  have hap : ∀ (i j : Nat) (o q : Oper), all[i]? = some o → all[j]? = some q → i < j → _ := fun i j o q ho hq hij => apart_spec ho hq (allPairs_spec hpairs i j hij (lt_of hq))
  have hdist : ∀ (i j : Nat) (o q : Oper) (x : Nat), all[i]? = some o → all[j]? = some q → j ≠ i → o.dst = some x → q.dst ≠ some x := by
    intro i j o q x ho hq hne hx e
    rcases Nat.lt_or_ge i j with h | h
    · exact sameDst_not (hap i j o q ho hq h).1 hx e
    · exact sameDst_not (hap j i q o hq ho (by omega)).1 e hx
  -- frames of the text's order
  have hcan : ∀ i, i ≤ all.length → Canon all F0 p (fun j => j < i) (F i) := by
    intro i
    induction i with
    | zero => intro _; rw [ht.f0]; exact ⟨fun j o x _ h => absurd h (by omega), fun x _ => rfl⟩
    | succ i ih =>
      intro hi
      have hlt : i < all.length := by omega
      have ho : all[i]? = some all[i] := List.getElem?_eq_getElem hlt
      have := (ih (by omega)).put ho fun j q x hq hne hx => hdist i j _ q x ho hq hne hx
      rw [(ht.step i _ ho).2]
      refine ⟨fun j o x h1 h2 h3 => this.1 j o x h1 (by simp only at h2 ⊢; omega) h3, fun x hx => this.2 x fun j o h1 h2 => hx j o h1 (by simp only at h2 ⊢; omega)⟩
  -- the invariant
  have main : ∀ fuel (L : Array Bool) (pb1 : Pb) (w1 : World) (a1 : Act) (m : Nat) (g : Fr), L.size = all.length → cnt L all.length ≤ fuel →
      (∀ j i, j < all.length → L.getD j false = true → Nat.testBit (bm.getD j 0) i = true → L.getD i false = true) → m ≤ all.length →
      (∀ i, i < all.length → isW (c i) = true → (L.getD i false = true ↔ i < m)) → Canon all F0 p (fun j => L.getD j false = true) g.get →
      St base (s m) pb1 w1 → Ext σ0 pb w (s m) pb1 w1 → FR (s m) pb1 w1 g a1.tmps → a1.tmps.size = n → Kp all a a1 → wpAny P .any all.toArray Q fuel L a1 w1 := by
    -- all listed
    have done : ∀ (L : Array Bool) (pb1 : Pb) (w1 : World) (a1 : Act) (m : Nat) (g : Fr), m ≤ all.length →
        (∀ i, i < all.length → isW (c i) = true → (L.getD i false = true ↔ i < m)) → Canon all F0 p (fun j => L.getD j false = true) g.get →
        St base (s m) pb1 w1 → Ext σ0 pb w (s m) pb1 w1 → FR (s m) pb1 w1 g a1.tmps → a1.tmps.size = n → Kp all a a1 → (∀ i, i < all.length → L.getD i false = true) → Q .normal a1 w1 := by
      intro L pb1 w1 a1 m g hmn hw hc hst hext hfr hsz hdf hall
      have e : s all.length = s m := seq_same hmn fun k h1 h2 => by
        have ho : all[k]? = some all[k] := List.getElem?_eq_getElem h2
        refine eff_keep (ht.step k _ ho).1.keep (Bool.eq_false_iff.2 fun h => ?_)
        have := (hw k h2 h).1 (hall k h2)
        omega
      refine hq pb1 w1 a1 (e ▸ hst) (e ▸ hext) ?_ hsz hdf
      rw [e]
      intro t
      have := hfr t
      rw [hc.same (hcan all.length (Nat.le_refl _)) (x := t) fun j o ho _ => ⟨fun _ => lt_of ho, fun h => hall j h⟩, ← hf' t] at this
      exact this
    intro fuel
    induction fuel with
    | zero =>
      intro L pb1 w1 a1 m g hL hcnt hdown hmn hw hc hst hext hfr hsz hdf
      have hall := cnt_zero (Nat.le_zero.1 hcnt)
      refine ⟨?_, done L pb1 w1 a1 m g hmn hw hc hst hext hfr hsz hdf hall⟩
      rw [List.eq_nil_iff_forall_not_mem]
      intro i hi
      obtain ⟨h1, o, ho, -⟩ := (mem_ready hL).1 hi
      rw [hall i (lt_of ho)] at h1
      cases h1
    | succ fuel ih =>
      intro L pb1 w1 a1 m g hL hcnt hdown hmn hw hc hst hext hfr hsz hdf
      refine ⟨fun hr => ?_, fun i hi => ?_⟩
      · refine done L pb1 w1 a1 m g hmn hw hc hst hext hfr hsz hdf fun i => ?_
        induction i using Nat.strongRecOn with
        | ind i ihi =>
          intro hlt
          cases hLi : L.getD i false with
          | true => rfl
          | false =>
            have ho : all[i]? = some all[i] := List.getElem?_eq_getElem hlt
            have : i ∈ Region.ready .any all.toArray L := (mem_ready hL).2 ⟨hLi, _, ho, fun e he hb => by
              have := hon i _ ho e he hb
              exact ihi e.on this (by omega)⟩
            rw [hr] at this
            cases this
      · obtain ⟨hLi, o, ho, hedge⟩ := (mem_ready hL).1 hi
        have hlt := lt_of ho
        have hanc : ∀ j, Nat.testBit (bm.getD i 0) j = true → L.getD j false = true := by
          intro j hb
          obtain ⟨e, h1, h2, h3⟩ := hbm i o ho j hb
          have hle := hedge e h1 h2
          rcases h3 with h3 | h3
          · rw [← h3]; exact hle
          · exact hdown e.on j (by have := hon i o ho e h1 h2; omega) hle h3
        have hdesc : ∀ j, j < all.length → Nat.testBit (bm.getD j 0) i = true → L.getD j false = false := by
          intro j hj hb
          cases hLj : L.getD j false with
          | false => rfl
          | true => rw [hdown j i hj hLj hb] at hLi; cases hLi
        obtain ⟨hstep, hF⟩ := ht.step i o ho
        -- what it looks at
        have hag : ∀ t ∈ readsOf all o, g.get t = F i t := by
          intro t htm
          refine hc.same (hcan i (by omega)) fun j q hq hx => ?_
          rcases Nat.lt_trichotomy j i with h | h | h
          · refine ⟨fun _ => h, fun _ => ?_⟩
            rcases (hap j i q o hq ho h).2 with k | k
            · exact hanc j k
            · exact absurd htm (dstIn_not k.1 hx)
          · subst h
            rw [ho] at hq; cases hq
            exact absurd htm (dstIn_not (selfOk_spec hself _ (List.mem_of_getElem? ho)) hx)
          · refine ⟨fun hl => ?_, fun h' => by omega⟩
            rcases (hap i j o q ho hq h).2 with k | k
            · rw [hdesc j (lt_of hq) k] at hl; cases hl
            · exact absurd htm (dstIn_not k.2.1 hx)
        -- its memory
        have hcls : ∀ j, j < all.length → cs.getD j .pure = c j := hcs
        have hearly : ∀ j, j < i → L.getD j false = false → isW (c j) = true → hits (c j) (c i) = false := by
          intro j hj hl hw2
          have hjl : j < all.length := by omega
          have hq : all[j]? = some all[j] := List.getElem?_eq_getElem hjl
          rcases (hap j i _ o hq ho hj).2 with k | k
          · rw [hanc j k] at hl; cases hl
          · have := k.2.2.1
            rw [hcls j hjl, hcls i hlt] at this
            exact this hw2
        have hlate : ∀ j, i < j → j < all.length → L.getD j false = true → isW (c j) = true → hits (c j) (c i) = false := by
          intro j hj hjl hl hw2
          have hq : all[j]? = some all[j] := List.getElem?_eq_getElem hjl
          rcases (hap i j o _ ho hq hj).2 with k | k
          · rw [hdesc j hjl k] at hl; cases hl
          · have := k.2.2.2
            rw [hcls j hjl, hcls i hlt] at this
            exact this hw2
        have hwr : isW (c i) = true → ∀ j, j < all.length → j ≠ i → isW (c j) = true → (L.getD j false = true ↔ j < i) := by
          intro hci j hj hne hcj
          rcases Nat.lt_or_ge j i with h | h
          · refine ⟨fun _ => h, fun _ => ?_⟩
            cases hl : L.getD j false with
            | true => rfl
            | false => have := hearly j h hl hcj; rw [hits_wr hcj hci] at this; cases this
          · refine ⟨fun hl => ?_, fun h' => by omega⟩
            have := hlate j (by omega) hj hl hcj
            rw [hits_wr hcj hci] at this
            cases this
        have heff : ∀ k, k < all.length → eff (c k) (s k) (s (k + 1)) := fun k hk => (ht.step k _ (List.getElem?_eq_getElem hk)).1.keep
        have hkeep : ∀ k, k < all.length → isW (c k) = false → s (k + 1) = s k := fun k hk hck => eff_keep (heff k hk) hck
        have hsm : isW (c i) = true → s m = s i := by
          intro hci
          rcases Nat.le_total m i with h | h
          · refine (seq_same h fun k h1 h2 => hkeep k (by omega) (Bool.eq_false_iff.2 fun hck => ?_)).symm
            have e1 := hw k (by omega) hck
            have e2 := hwr hci k (by omega) (by omega) hck
            have := e1.1 (e2.2 h2)
            omega
          · refine seq_same h fun k h1 h2 => hkeep k (by omega) (Bool.eq_false_iff.2 fun hck => ?_)
            have e1 := hw k (by omega) hck
            by_cases hki : k = i
            · subst hki
              rw [e1.2 h2] at hLi; cases hLi
            · have e2 := hwr hci k (by omega) hki hck
              have := e2.1 (e1.2 h2)
              omega
        have hgo : ∀ {a b : Nat}, a ≤ b → b ≤ all.length → (∀ k, a ≤ k → k < b → isW (c k) = true → hits (c k) (c i) = false) → agr (c i) (s a) (s b) := by
          intro a b hab
          induction b with
          | zero => intro _ _; have : a = 0 := by omega
                    rw [this]; exact agr_refl _ _
          | succ b ihb =>
            intro hb hk
            by_cases e : a = b + 1
            · rw [e]; exact agr_refl _ _
            · refine agr_trans (ihb (by omega) (by omega) fun k h1 h2 => hk k h1 (by omega)) ?_
              cases hwb : isW (c b) with
              | true => exact eff_agr hwb (hk b (by omega) (by omega) hwb) (heff b (by omega))
              | false => rw [hkeep b (by omega) hwb]; exact agr_refl _ _
        have hrd : isW (c i) = false → agr (c i) (s i) (s m) := by
          intro hci
          rcases Nat.le_total m i with h | h
          · refine agr_symm (hgo h (by omega) fun k h1 h2 hck => hearly k h2 ?_ hck)
            cases hl : L.getD k false with
            | false => rfl
            | true => have := (hw k (by omega) hck).1 hl; omega
          · refine hgo h hmn fun k h1 h2 hck => ?_
            have hl := (hw k (by omega) hck).2 h2
            by_cases hki : k = i
            · subst hki; rw [hck] at hci; cases hci
            · exact hlate k (by omega) (by omega) hl hck
        -- what then
        have next : ∀ m', m' ≤ all.length → (∀ j, j < all.length → isW (c j) = true → ((L.setIfInBounds i true).getD j false = true ↔ j < m')) → GStep P all g (s m) o (p i) (s m') →
            wpOp P all.toArray Q i (wpAny P .any all.toArray Q fuel (L.setIfInBounds i true)) a1 w1 := by
          intro m' hm' hw' hg
          unfold wpOp
          rw [show all.toArray[i]? = some o by simpa using ho]
          refine hg base pb1 w1 a1 hst hfr _ Q fun pb2 w2 y hs2 he2 hv2 => ?_
          have hset : ∀ j, (L.setIfInBounds i true).getD j false = true ↔ (j = i ∨ L.getD j false = true) := by
            intro j
            by_cases e : j = i
            · subst e; simp [Array.getD_eq_getD_getElem?, Array.getElem?_setIfInBounds, hL, hlt]
            · have e' : i ≠ j := fun h => e h.symm
              simp [Array.getD_eq_getD_getElem?, Array.getElem?_setIfInBounds, e, e']
          have hdo : ∀ t, o.dst = some t → t < n := okDsts_lt hok o (List.mem_of_getElem? ho)
          refine ih (L.setIfInBounds i true) pb2 w2 (a1.put o.dst y) m' (g.put o.dst (p i)) (by simpa using hL) ?_ ?_ hm' hw' ?_ hs2 (hext.trans he2) (FR.put (hfr.ext he2) (fun t ht => by rw [hsz]; exact hdo t ht) hv2) (by rw [Act.put_size, hsz]) (hdf.put (List.mem_of_getElem? ho))
          · have := cnt_set (L := L) (by omega) hLi all.length hlt
            omega
          · intro j k hj h1 h2
            rw [hset] at h1 ⊢
            rcases h1 with rfl | h1
            · exact .inr (hanc k h2)
            · exact .inr (hdown j k hj h1 h2)
          · have := hc.put ho fun j q x hq hne hx => hdist i j o q x ho hq hne hx
            have e : (g.put o.dst (p i)).get = putF g.get o.dst (p i) := funext fun t => put_putF (fun _ => rfl) _ _ t
            rw [e]
            exact ⟨fun j q x h1 h2 h3 => this.1 j q x h1 ((hset j).1 h2) h3, fun x hx => this.2 x fun j q h1 h2 => hx j q h1 ((hset j).2 h2)⟩
        have hset' : ∀ j, j ≠ i → (L.setIfInBounds i true).getD j false = L.getD j false := by
          intro j e
          have e' : i ≠ j := fun h => e h.symm
          simp [Array.getD_eq_getD_getElem?, Array.getElem?_setIfInBounds, e']
        cases hc2 : isW (c i) with
        | true =>
          refine next (i + 1) (by omega) (fun j hj hcj => ?_) ?_
          · by_cases e : j = i
            · subst e
              simp [Array.getD_eq_getD_getElem?, Array.getElem?_setIfInBounds, hL, hlt]
            · rw [hset' j e, hwr hc2 j hj e hcj]
              omega
          · rw [hsm hc2]
            exact hstep.run g hag
        | false =>
          refine next m hmn (fun j hj hcj => ?_) (hstep.free hc2 g hag (s m) (hrd hc2))
          have e : j ≠ i := fun e => by rw [e, hc2] at hcj; cases hcj
          rw [hset' j e]
          exact hw j hj hcj
  refine wp_region_any hm ?_
  have h0 : ∀ i, (Array.replicate all.length false).getD i false = false := by
    intro i
    simp [Array.getD_eq_getD_getElem?, Array.getElem?_replicate]
    split <;> rfl
  have hx : Ext σ0 pb w σ0 pb { w with drawn := w.drawn + 1 } := ⟨rfl, rfl, rfl, Nat.le_refl _, Keeps.refl _ _, fun b c e f h => ⟨c, f, h, rfl⟩, PlExt.refl _ _⟩
  have hst : St base σ0 pb { w with drawn := w.drawn + 1 } := by
    refine ⟨hs.bs, hs.len, hs.inj, hs.bnd, hs.frn, fun k q o h1 h2 => ?_⟩
    have := hs.pl k q o h1 h2
    cases q with
    | cells cs => cases o with
      | none => exact this
      | some b => obtain ⟨c, e, f, h3, h4, h5⟩ := this; exact ⟨c, e, f, h3, h4, h5.ext hx⟩
    | rows r xs g => cases o with
      | none => exact this
      | some b =>
        obtain ⟨c, e, f, h3, h4, h5, h6⟩ := this
        refine ⟨c, e, f, h3, h4, h5, fun i hi => ?_⟩
        obtain ⟨vs, k1, k2, k3⟩ := h6 i hi
        exact ⟨vs, k1, k2, k3.mono hx.keeps⟩
    | dead => exact this
  refine main all.toArray.size _ pb _ a 0 f (by simp) ?_ (fun j i _ h => ?_) (Nat.zero_le _) (fun i _ _ => ?_) ⟨fun j o x _ h => ?_, fun x _ => hf0 x⟩ (by rw [ht.s0]; exact hst) (by rw [ht.s0]; exact hx) (by rw [ht.s0]; exact hf.ext hx) hn (Kp.refl _ _)
  · have : ∀ m, cnt (Array.replicate all.length false) m ≤ m := by
      intro m
      induction m with
      | zero => exact Nat.le_refl _
      | succ m ih => simp only [cnt]; split <;> omega
    simpa using this all.length
  · rw [show all.toArray.size = all.length by simp, h0] at h; cases h
  · rw [show all.toArray.size = all.length by simp, h0]; simp
  · simp only [show all.toArray.size = all.length by simp, h0] at h; cases h

end Go.Proofs.YtcngjidojibleaaPM
