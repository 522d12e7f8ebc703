/- Single operations: sums and the like, lengths, conversions, rows that are made. -/
import Derived.Test.YtcngjidojibleaaPmLem6
import Derived.Laws.StructEq
set_option linter.unusedVariables false
set_option linter.unusedSectionVars false
set_option linter.unusedSimpArgs false
namespace Go.Proofs.YtcngjidojibleaaPM
open Go Go.RowKit
variable [Foreign]

variable {P : Program} {base : Nat} {σ : Sig} {pb : Pb} {w : World}

theorem arrayAt_ok {t : TypeId} {p : PV} {y : Value} {tr : Tri} (h : oArrayAt P t p σ = some tr) (h1 : tr.ok = true) (hs : St base σ pb w) (hv : VR σ pb w p y) : SemOk P base σ pb w (Instr.arrayAt t y) tr := by
  unfold oArrayAt at h
  split at h
  · rename_i n e hu
    have run : ∀ (a : Option Addr) (len cap : Nat), n ≤ len → (Instr.arrayAt t (.slice a len cap)).run P w = .ok (.pointer a) w := by
      intro a len cap hle
      unfold Instr.arrayAt
      simp [und_run hu]
      omega
    cases p with
    | rows full r xs =>
      cases r with
      | int k =>
        simp only at h
        cases h
        have h1 := of_decide_eq_true h1
        obtain ⟨a, cap, rfl, hc, _, hr⟩ := hv
        refine SemOk.stay hs (run a _ cap h1) ⟨h1, a, rfl, hr, ?_⟩
        by_cases hn : n = 0
        · exact .inl hn
        · obtain ⟨b, o, vs, rfl, _⟩ := hr 0 (by have : n ≤ List.length (α := Int) xs := h1; show 0 < List.length (α := Int) xs; omega)
          exact .inr rfl
      | _ => cases h
    | own k g =>
      simp only at h
      split at h
      · rename_i r xs g' hk
        split at h
        · rename_i hc
          cases h
          simp only [Bool.and_eq_true, decide_eq_true_eq] at h1
          obtain ⟨hlt, hv⟩ := hv
          rcases (hv _ _ _ hk).2 hc.symm with ⟨b, cap, hb, rfl, hcap, _⟩ | ⟨_, hx, _⟩
          · refine SemOk.stay hs (run _ _ cap h1.2) ⟨hlt, b, 0, rfl, fun r' xs' g'' hk' => ?_⟩
            rw [hk] at hk'
            cases hk'
            exact ⟨by omega, fun _ => ⟨hb, by omega, by simp⟩⟩
          · subst hx; simp at h1; omega
        · cases h
      · cases h
    | ref k i m g =>
      simp only at h
      split at h
      · rename_i r xs g' hk
        split at h
        · rename_i hc
          cases h
          simp only [Bool.and_eq_true, decide_eq_true_eq] at h1
          obtain ⟨hlt, hv⟩ := hv
          rcases (hv _ _ _ hk).2 hc.symm with ⟨b, o, cap, hb, hle, ho, rfl, hcap⟩ | ⟨hx, _⟩
          · have ho := ho (by omega)
            subst ho
            refine SemOk.stay hs (run _ _ cap h1.2) ⟨hlt, b, _, rfl, fun r' xs' g'' hk' => ?_⟩
            rw [hk] at hk'
            cases hk'
            exact ⟨by omega, fun _ => ⟨hb, by omega, rfl⟩⟩
          · omega
        · cases h
      · cases h
    | _ => cases h
  · cases h

theorem kInt_some {k k' : IntKind} {n : Int} {c : Bool} {r : Value} (h : kInt k k' n = some (c, r)) : k = k' ∧ c = true ∧ r = .int k n := by
  unfold kInt at h
  split at h
  · rename_i e; cases h; exact ⟨e, rfl, rfl⟩
  · cases h
theorem kBool_some {k k' : IntKind} {b : Bool} {c : Bool} {r : Value} (h : kBool k k' b = some (c, r)) : k = k' ∧ c = true ∧ r = .bool b := by
  unfold kBool at h
  split at h
  · rename_i e; cases h; exact ⟨e, rfl, rfl⟩
  · cases h
theorem bytes_toList (a : ByteArray) : a.toList = a.data.toList := by
  have go : ∀ (n i : Nat) (r : List UInt8), a.size - i = n → ByteArray.toList.loop a i r = r.reverse ++ a.data.toList.drop i := by
    intro n
    induction n with
    | zero =>
      intro i r h
      unfold ByteArray.toList.loop
      rw [if_neg (by omega), List.drop_of_length_le (by simp; omega)]
      simp
    | succ n ih =>
      intro i r h
      unfold ByteArray.toList.loop
      have hi : i < a.size := by omega
      rw [if_pos hi, ih (i + 1) _ (by omega), List.drop_eq_getElem_cons (show i < a.data.toList.length by simpa using hi)]
      simp [ByteArray.get!, getElem!_pos, hi]
  exact (go _ 0 [] rfl).trans (by simp)
theorem toList_beq (a b : ByteArray) : (a.toList == b.toList) = decide (a = b) := by
  rw [Bool.eq_iff_iff, beq_iff_eq, decide_eq_true_iff, bytes_toList, bytes_toList]
  constructor
  · intro h
    cases a; cases b
    simp only [Array.toList_inj] at h
    rw [h]
  · rintro rfl; rfl
theorem beq_decide (a b : Int) : (a == b) = decide (a = b) := by
  rw [Bool.eq_iff_iff, beq_iff_eq, decide_eq_true_iff]
theorem bne_decide (a b : Int) : (a != b) = !decide (a = b) := by
  unfold bne; rw [beq_decide]

/-! ### structs compared -/
def EqRun (P : Program) (σ : Sig) (pb : Pb) (w : World) (d : Nat) (t : TypeId) (ps qs : List PV) (b : Bool) : Prop :=
  ∃ p q, wrapCells (isAggT P t) ps = some p ∧ wrapCells (isAggT P t) qs = some q ∧ ∀ z z', VR σ pb w p z → VR σ pb w q z' → ∀ m, (Op.equalIn (d + m) t z z').run P w = .ok b w
theorem eqFs_ok {d : Nat} {f : TypeId → List PV → List PV → Option Bool} (hf : ∀ t ps qs b, f t ps qs = some b → (∃ u, P.underlying t = some u) ∧ EqRun P σ pb w d t ps qs b) {ps qs : List PV} {xs ys : List Value} (hx : CRs σ pb w ps xs) (hy : CRs σ pb w qs ys) (m : Nat) :
    ∀ {fs : List Field} {b : Bool}, eqFs P f ps qs fs = some b → (Op.eqFields (d + m) xs.toArray ys.toArray fs).run P w = .ok b w := by
  have one : ∀ {x : Field} {a : Bool}, x.offset + szOf P x.type ≤ ps.length ∧ x.offset + szOf P x.type ≤ qs.length → f x.type ((ps.drop x.offset).take (szOf P x.type)) ((qs.drop x.offset).take (szOf P x.type)) = some a →
      ∃ z z', (part x.type xs.toArray x.offset).run P w = .ok z w ∧ (part x.type ys.toArray x.offset).run P w = .ok z' w ∧ (Op.equalIn (d + m) x.type z z').run P w = .ok a w := by
    intro x a hle h
    obtain ⟨⟨u, hu⟩, p, q, h1, h2, h3⟩ := hf _ _ _ _ h
    obtain ⟨z, z1, z2⟩ := part_run (P := P) (p := p) (show partOf P x.type ps x.offset = some p by unfold partOf; rw [hu]; simp only; rw [if_pos hle.1]; exact h1) hx
    obtain ⟨z', z3, z4⟩ := part_run (P := P) (p := q) (show partOf P x.type qs x.offset = some q by unfold partOf; rw [hu]; simp only; rw [if_pos hle.2]; exact h2) hy
    exact ⟨z, z', z1, z3, h3 z z' z2 z4 m⟩
  intro fs
  induction fs with
  | nil => intro b h; cases h; simp [Op.eqFields]
  | cons x fs ih =>
    intro b h
    have go : ∀ {a c : Bool}, (x.name == "_") = false → x.offset + szOf P x.type ≤ ps.length ∧ x.offset + szOf P x.type ≤ qs.length → f x.type ((ps.drop x.offset).take (szOf P x.type)) ((qs.drop x.offset).take (szOf P x.type)) = some a →
        (Op.eqFields (d + m) xs.toArray ys.toArray fs).run P w = .ok c w → (Op.eqFields (d + m) xs.toArray ys.toArray (x :: fs)).run P w = .ok (a && c) w := by
      intro a c hn hle h hr
      have hn' : x.name ≠ "_" := by simpa using hn
      obtain ⟨z, z', e1, e2, e3⟩ := one hle h
      rw [Op.eqFields]
      simp only [if_pos hn', Sem.run_bind, e1, e2, e3, Result.andThen_ok]
      cases a
      · simp
      · simpa using hr
    cases fs with
    | nil =>
      simp only [eqFs] at h
      split at h
      · cases h
      · rename_i hn
        split at h
        · rename_i hle
          have := go (c := true) (by simpa using hn) hle h (by simp [Op.eqFields])
          rwa [Bool.and_true] at this
        · cases h
    | cons y fs =>
      simp only [eqFs] at h
      split at h
      · cases h
      · rename_i hn
        split at h
        · rename_i hle
          split at h
          · rename_i a ha
            split at h
            · rename_i c hc
              cases h
              exact go (by simpa using hn) hle ha (ih hc)
            · cases h
          · cases h
        · cases h
theorem eqT_ok : ∀ (d : Nat) (t : TypeId) (ps qs : List PV) (b : Bool), eqT P d t ps qs = some b → (∃ u, P.underlying t = some u) ∧ EqRun P σ pb w d t ps qs b := by
  intro d
  induction d with
  | zero => intro t ps qs b h; cases h
  | succ d ih =>
    intro t ps qs b h
    unfold eqT at h
    split at h
    · rename_i hu
      have ha : isAggT P t = false := by unfold isAggT; rw [hu]
      split at h
      · cases h
        refine ⟨⟨_, hu⟩, _, _, by rw [ha]; rfl, by rw [ha]; rfl, fun z z' h1 h2 m => ?_⟩
        rw [h1, h2, Nat.add_right_comm]
        exact run_equalIn_bool' w (d + m) t _ _ hu
      · cases h
    · rename_i k0 hu
      have ha : isAggT P t = false := by unfold isAggT; rw [hu]
      split at h
      · split at h
        · rename_i ek
          subst ek
          cases h
          refine ⟨⟨_, hu⟩, _, _, by rw [ha]; rfl, by rw [ha]; rfl, fun z z' h1 h2 m => ?_⟩
          rw [h1, h2, Nat.add_right_comm, ← beq_decide]
          exact run_equalIn_int w (d + m) t _ _ _ _ hu
        · cases h
      · cases h
    · rename_i hu
      have ha : isAggT P t = false := by unfold isAggT; rw [hu]
      split at h
      · cases h
        refine ⟨⟨_, hu⟩, _, _, by rw [ha]; rfl, by rw [ha]; rfl, fun z z' h1 h2 m => ?_⟩
        rw [h1, h2, Nat.add_right_comm, ← toList_beq]
        exact run_equalIn_string w (d + m) t _ _ hu
      · cases h
    · rename_i fs hu
      have ha : isAggT P t = true := by unfold isAggT; rw [hu]
      split at h
      · rename_i hst
        have hff : P.fieldsOf t = fs := by simp [Program.fieldsOf, hu]
        refine ⟨⟨_, hu⟩, _, _, by rw [ha]; rfl, by rw [ha]; rfl, fun z z' h1 h2 m => ?_⟩
        obtain ⟨xs, rfl, hx⟩ := h1
        obtain ⟨ys, rfl, hy⟩ := h2
        rw [Nat.add_right_comm, run_equalIn_agg w (d + m) t _ _ (by rw [hff]; exact hu) hst, hff]
        exact eqFs_ok (d := d) ih hx hy m h
      · cases h
    · cases h
theorem eq_ok {op : BinOp} {neg : Bool} (hop : op = if neg then .neq else .eql) {t : TypeId} {xo yo : Operand} {ps qs : List PV} {y z : Value} {tr : Tri} (h : oEq P neg t ps qs σ = some tr) (hs : St base σ pb w) (hp : VR σ pb w (.agg ps) y) (hq : VR σ pb w (.agg qs) z) :
    SemOk P base σ pb w (do eqGuard op t xo yo y z; binOp op t y z) tr := by
  unfold oEq at h
  split at h
  · rename_i hg
    split at h
    · rename_i fs hu
      split at h
      · rename_i b hb
        cases h
        obtain ⟨_, p, q, e1, e2, e3⟩ := eqT_ok (σ := σ) (pb := pb) (w := w) 10 t ps qs b hb
        have ha : isAggT P t = true := by unfold isAggT; rw [hu]
        rw [ha] at e1 e2
        cases e1
        cases e2
        have he := e3 y z hp hq 9990
        obtain ⟨xs, rfl, hx⟩ := hp
        obtain ⟨ys, rfl, hy⟩ := hq
        refine SemOk.stay hs (z := .bool (bif neg then !b else b)) ?_ rfl
        rw [Sem.run_bind, run_eqGuard_agg w op t xo yo _ _ hg, Result.andThen_ok, hop]
        cases neg
        · simp only [Bool.false_eq_true, if_false, cond_false]
          rw [run_eql_struct, he]
          rfl
        · simp only [if_true, cond_true]
          rw [run_neq_struct, he]
          rfl
      · cases h
    · cases h
  · cases h

theorem bin_ok {op : BinOp} {t : TypeId} {xo yo : Operand} {p q : PV} {y z : Value} {tr : Tri} (h : oBin P op t xo yo p q σ = some tr) (h1 : tr.ok = true) (hs : St base σ pb w) (hp : VR σ pb w p y) (hq : VR σ pb w q z) :
    SemOk P base σ pb w (do eqGuard op t xo yo y z; binOp op t y z) tr := by
  unfold oBin at h
  split at h
  · exact eq_ok (neg := false) rfl h hs hp hq
  · exact eq_ok (neg := true) rfl h hs hp hq
  rename_i hx1 hx2
  clear hx1 hx2
  split at h
  · rename_i a b ha hb
    obtain rfl := toV_rel ha hp
    obtain rfl := toV_rel hb hq
    split at h
    · rename_i c r hbin
      cases h
      have main : (do eqGuard op t xo yo y z; binOp op t y z : Sem Value).run P w = .ok r w := by
        have h1 : c = true := h1
        unfold binS at hbin
        split at hbin
        · rename_i k a k' b
          split at hbin
          · rename_i e
            subst e
            cases hbin
            have : b ≠ 0 := by simpa using h1
            simp [eqGuard, binOp, Op.intDiv, this]
          · cases hbin
        · rename_i k a k' b
          split at hbin
          · rename_i e
            subst e
            cases hbin
            have : b ≠ 0 := by simpa using h1
            simp [eqGuard, binOp, Op.intDiv, this]
          · cases hbin
        · rename_i k a k' b
          cases hbin
          have h1 := of_decide_eq_true h1
          have : ¬ b < 0 := by omega
          simp [eqGuard, binOp, Op.shift, this, shlI, shrI]
        · rename_i k a k' b
          cases hbin
          have h1 := of_decide_eq_true h1
          have : ¬ b < 0 := by omega
          simp [eqGuard, binOp, Op.shift, this, shlI, shrI]
        · rename_i a b
          cases hbin
          have h1 := of_decide_eq_true h1
          have : ¬ (((a.size + b.size : Nat) : Int) > IntKind.i64.max) := by
            have : IntKind.i64.max = 9223372036854775807 := by decide
            rw [this]
            omega
          simp only [eqGuard, binOp, Op.stringOp]
          rw [if_neg this]
          rfl
        · cases hbin
          simp only [eqGuard, binOp, Op.stringOp]
          simp [toList_beq, sltB]
        · cases hbin
          simp only [eqGuard, binOp, Op.stringOp]
          simp [toList_beq, sltB]
        · cases hbin
          simp only [eqGuard, binOp, Op.stringOp]
          simp [toList_beq, sltB]
        · cases hbin
          simp only [eqGuard, binOp, Op.stringOp]
          simp [toList_beq, sltB]
        · cases hbin
          simp only [eqGuard, binOp, Op.stringOp]
          simp [toList_beq, sltB]
        · cases hbin
          simp only [eqGuard, binOp, Op.stringOp]
          simp [toList_beq, sltB]
        · rename_i k a k' b
          obtain ⟨e, rfl, rfl⟩ := kInt_some hbin
          subst e
          simp [eqGuard, binOp, Op.intArith, Op.intBits, bits]
        · rename_i k a k' b
          obtain ⟨e, rfl, rfl⟩ := kInt_some hbin
          subst e
          simp [eqGuard, binOp, Op.intArith, Op.intBits, bits]
        · rename_i k a k' b
          obtain ⟨e, rfl, rfl⟩ := kInt_some hbin
          subst e
          simp [eqGuard, binOp, Op.intArith, Op.intBits, bits]
        · rename_i k a k' b
          obtain ⟨e, rfl, rfl⟩ := kInt_some hbin
          subst e
          simp [eqGuard, binOp, Op.intArith, Op.intBits, bits]
        · rename_i k a k' b
          obtain ⟨e, rfl, rfl⟩ := kInt_some hbin
          subst e
          simp [eqGuard, binOp, Op.intArith, Op.intBits, bits]
        · rename_i k a k' b
          obtain ⟨e, rfl, rfl⟩ := kInt_some hbin
          subst e
          simp [eqGuard, binOp, Op.intArith, Op.intBits, bits]
        · rename_i k a k' b
          obtain ⟨e, rfl, rfl⟩ := kInt_some hbin
          subst e
          simp [eqGuard, binOp, Op.intArith, Op.intBits, bits]
        · rename_i k a k' b
          obtain ⟨e, rfl, rfl⟩ := kBool_some hbin
          subst e
          simp [eqGuard, binOp, Op.intCmp, beq_decide, bne_decide]
        · rename_i k a k' b
          obtain ⟨e, rfl, rfl⟩ := kBool_some hbin
          subst e
          simp [eqGuard, binOp, Op.intCmp, beq_decide, bne_decide]
        · rename_i k a k' b
          obtain ⟨e, rfl, rfl⟩ := kBool_some hbin
          subst e
          simp [eqGuard, binOp, Op.intCmp, beq_decide, bne_decide]
        · rename_i k a k' b
          obtain ⟨e, rfl, rfl⟩ := kBool_some hbin
          subst e
          simp [eqGuard, binOp, Op.intCmp, beq_decide, bne_decide]
        · rename_i k a k' b
          obtain ⟨e, rfl, rfl⟩ := kBool_some hbin
          subst e
          simp [eqGuard, binOp, Op.intCmp, beq_decide, bne_decide]
        · rename_i k a k' b
          obtain ⟨e, rfl, rfl⟩ := kBool_some hbin
          subst e
          simp [eqGuard, binOp, Op.intCmp, beq_decide, bne_decide]
        · split at hbin
          · rename_i r' hr
            cases hbin
            exact val_run P _ _ w hr
          · cases hbin
      exact SemOk.stay hs main (ofV_rel σ pb w r)
    · cases h
  · cases h

theorem un_ok {op : UnOp} {p : PV} {y : Value} {tr : Tri} (h : oUn P op p σ = some tr) (hs : St base σ pb w) (hp : VR σ pb w p y) : SemOk P base σ pb w (Op.unary op y) tr := by
  unfold oUn at h
  split at h
  · rename_i a ha
    obtain rfl := toV_rel ha hp
    split at h
    · rename_i r hr
      cases h
      refine SemOk.stay hs ?_ (ofV_rel σ pb w r)
      unfold unS at hr
      split at hr
      · cases hr; simp [Op.unary, Op.intArith]
      · cases hr; simp [Op.unary, Op.intBits, bits]
      · cases hr; simp [Op.unary]
      · exact val_run P _ _ w hr
    · cases h
  · cases h

theorem len_ok {t : TypeId} {ts : Array TypeId} {ty : TypeId} {p : PV} {y : Value} {tr : Tri} (ht : ts[0]? = some t) (h : oLen P t p σ = some tr) (hs : St base σ pb w) (hp : VR σ pb w p y) :
    SemOk P base σ pb w (Builtin.len_ ts ty #[y]) tr := by
  unfold oLen at h
  split at h
  · rename_i hu
    cases p with
    | v x =>
      cases x with
      | string s =>
        cases h
        have hp : y = .string s := hp
        subst hp
        refine SemOk.stay hs (z := .int .i64 s.size) ?_ rfl
        unfold Builtin.len_
        simp [ht, und_run hu, goInt]
      | _ => cases h
    | _ => cases h
  · rename_i e hu
    have run : ∀ (a : Option Addr) (n cap : Nat), (Builtin.len_ ts ty #[.slice a n cap]).run P w = .ok (.int .i64 n) w := by
      intro a n cap
      unfold Builtin.len_
      simp [ht, und_run hu, goInt]
    cases p with
    | rows full r xs =>
      cases h
      obtain ⟨a, cap, rfl, _⟩ := hp
      exact SemOk.stay hs (run _ _ _) rfl
    | own k g =>
      simp only at h
      split at h
      · rename_i r xs g' hk
        split at h
        · rename_i hc
          cases h
          obtain ⟨hlt, hv⟩ := hp
          rcases (hv _ _ _ hk).2 hc.symm with ⟨b, cap, hb, rfl, hcap, _⟩ | ⟨_, hx, a, rfl⟩
          · exact SemOk.stay hs (run _ _ _) rfl
          · subst hx; exact SemOk.stay hs (run _ _ _) rfl
        · cases h
      · cases h
    | ref k i m g =>
      simp only at h
      split at h
      · rename_i r xs g' hk
        split at h
        · rename_i hc
          cases h
          obtain ⟨hlt, hv⟩ := hp
          rcases (hv _ _ _ hk).2 hc.symm with ⟨b, o, cap, hb, hle, ho, rfl, hcap⟩ | ⟨hx, a, rfl⟩
          · exact SemOk.stay hs (run _ _ _) rfl
          · subst hx; exact SemOk.stay hs (run _ _ _) rfl
        · cases h
      · cases h
    | v x =>
      have e : x = .slice none 0 0 ∧ tr = ⟨true, intV 0, σ⟩ := by
        cases x with
        | slice a n c => cases a with
          | some => cases h
          | none => cases n with
            | succ => cases h
            | zero => cases c with
              | succ => cases h
              | zero => cases h; exact ⟨rfl, rfl⟩
        | _ => cases h
      obtain ⟨rfl, rfl⟩ := e
      have hp : y = .slice none 0 0 := hp
      subst hp
      exact SemOk.stay hs (run _ _ _) rfl
    | _ => cases h
  · rename_i n e hu
    cases h
    refine SemOk.stay hs (z := .int .i64 n) ?_ rfl
    unfold Builtin.len_
    simp [ht, und_run hu, goInt]
  · cases h

theorem mmL_ok {mx : Bool} {k : IntKind} {w : World} : ∀ {ps : List PV} {a n : Int} {ys : List Value}, mmL mx k a ps = some n → CRs σ pb w ps ys →
    (ys.foldlM (if mx = true then Builtin.max2 else Builtin.min2) (.int k a)).run P w = .ok (.int k n) w := by
  intro ps
  induction ps with
  | nil => intro a n ys h hr; cases h; cases ys with
    | nil => rfl
    | cons => exact hr.elim
  | cons p ps ih =>
    intro a n ys h hr
    unfold mmL at h
    split at h
    · rename_i e; cases e
    · rename_i a' _ lp k' b r e
      cases e
      cases ys with
      | nil => exact hr.elim
      | cons y ys =>
        have hy : y = .int k' b := hr.1
        subst hy
        rw [List.foldlM_cons, Sem.run_bind]
        have : ((if mx = true then Builtin.max2 else Builtin.min2) (.int k a') (.int k' b)).run P w = .ok (.int k (mmI mx a' b)) w := by
          cases mx
          · simp [Builtin.min2, mmI]
          · simp [Builtin.max2, mmI]
        rw [this, Result.andThen_ok]
        exact ih h hr.2
    · cases h
end Go.Proofs.YtcngjidojibleaaPM
