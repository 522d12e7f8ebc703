/- A region whose order is open happens as it is reckoned in the text's order. -/
import Derived.Test.YtcngjidojibleaaPmSound
import Derived.Orders
set_option linter.unusedVariables false
set_option linter.unusedSectionVars false
set_option linter.unusedSimpArgs false
namespace Go.Proofs.YtcngjidojibleaaPM
open Go Go.RowKit
variable [Foreign]

variable {P : Program} {call : CallK} {R : Type}

/-! ### steps look at their operands alone -/
theorem evs_congr {f g : Fr} : ∀ {l : List Operand}, (∀ x ∈ l, ev f x = ev g x) → evs f l = evs g l
  | [], _ => rfl
  | x :: l, h => by simp only [evs]; rw [h x (List.mem_cons_self ..), evs_congr (fun y hy => h y (List.mem_cons_of_mem _ hy))]
theorem parts_congr {f g : Fr} {l : List (Nat × Operand)} (h : ∀ x ∈ l.map (·.2), ev f x = ev g x) : partsE f l = partsE g l := by
  unfold partsE
  apply List.map_congr_left
  intro p hp
  rw [h p.2 (List.mem_map_of_mem hp)]

theorem stp_congr {f g : Fr} {σ : Sig} {o : Oper} (h : ∀ x ∈ o.op.operands.toList, ev f x = ev g x) : stp P f σ o = stp P g σ o := by
  unfold stp
  generalize o.op = op at h ⊢
  cases op with
  | build t parts =>
    simp only
    rw [parts_congr (f := f) (g := g) (fun x hx => h x (by simpa [Op.operands] using hx))]
  | buildSlice t n parts =>
    simp only
    rw [parts_congr (f := f) (g := g) (fun x hx => h x (by simpa [Op.operands] using hx))]
  | slice t x lo hi mx =>
    have hx := h x (by simp [Op.operands])
    have h1 : lo.map (ev f) = lo.map (ev g) := by
      cases lo with
      | none => rfl
      | some y => simp only [Option.map_some]; rw [h y (by simp [Op.operands])]
    have h2 : hi.map (ev f) = hi.map (ev g) := by
      cases hi with
      | none => rfl
      | some y => simp only [Option.map_some]; rw [h y (by simp [Op.operands])]
    cases mx with
    | none => simp only [hx, h1, h2]
    | some m => cases hi with
      | none => rfl
      | some y => simp only [hx, h1, h y (by simp [Op.operands]), h m (by simp [Op.operands])]
  | makeFunc fn first captured =>
    cases fn <;> simp only
    rw [evs_congr (f := f) (g := g) (fun x hx => h x (by simp [Op.operands]; right; simpa using hx))]
  | call c =>
    obtain ⟨callee, args, ts⟩ := c
    cases callee <;> simp only
    rw [evs_congr (f := f) (g := g) (fun x hx => h x (by simp [Op.operands, Call.operands]; simpa using hx))]
  | move x => simp only [h x (by simp [Op.operands])]
  | assign x => simp only [h x (by simp [Op.operands])]
  | nilCheck x => simp only [h x (by simp [Op.operands])]
  | fieldAddr t x i => simp only [h x (by simp [Op.operands])]
  | field t x i => simp only [h x (by simp [Op.operands])]
  | load t x => simp only [h x (by simp [Op.operands])]
  | store t x y => simp only [h x (by simp [Op.operands]), h y (by simp [Op.operands])]
  | box t x => simp only [h x (by simp [Op.operands])]
  | indexAddr t x y => simp only [h x (by simp [Op.operands]), h y (by simp [Op.operands])]
  | index t x y => simp only [h x (by simp [Op.operands]), h y (by simp [Op.operands])]
  | extract x i => simp only [h x (by simp [Op.operands])]
  | sliceToArrayPointer t x => simp only [h x (by simp [Op.operands])]
  | convert s d x => simp only [h x (by simp [Op.operands])]
  | makeSlice t x y => simp only [h x (by simp [Op.operands]), h y (by simp [Op.operands])]
  | binOp op t x y yt => simp only [h x (by simp [Op.operands]), h y (by simp [Op.operands])]
  | unOp op t x => simp only [h x (by simp [Op.operands])]
  | _ => rfl

theorem oAlt_congr {f g : Fr} {σ : Sig} {o : Oper} (h : ∀ x ∈ o.op.operands.toList, ev f x = ev g x) : oAlt P f σ o = oAlt P g σ o := by
  unfold oAlt
  generalize o.op = op at h ⊢
  cases op with
  | convert s d x => simp only [h x (by simp [Op.operands])]
  | buildSlice t n parts =>
    simp only
    rw [parts_congr (f := f) (g := g) (fun x hx => h x (by simpa [Op.operands] using hx))]
  | slice t x lo hi mx =>
    have hx := h x (by simp [Op.operands])
    cases lo with
    | some _ => rfl
    | none => cases hi with
      | none => rfl
      | some y => cases mx with
        | some _ => rfl
        | none => simp only [hx, h y (by simp [Op.operands])]
  | _ => rfl

/-! ### what a class tells -/
def shapeP : Option Place → Option (Sh × Nat × Nat)
  | some (.rows r xs g) => some (r, xs.length, g)
  | _ => none
theorem shape_some {q q2 : Option Place} (h : shapeP q2 = shapeP q) {r : Sh} {xs : List r.den} {g : Nat} (hq : q = some (.rows r xs g)) : ∃ ys : List r.den, ys.length = xs.length ∧ q2 = some (.rows r ys g) := by
  subst hq
  match q2, h with
  | some (.rows r2 ys g2), h =>
    have h : some (r2, ys.length, g2) = some (r, xs.length, g) := h
    injection h with h
    injection h with h1 h2
    injection h2 with h2 h3
    subst h1 h3
    exact ⟨ys, h2, rfl⟩
  | none, h => cases h
  | some (.cells _), h => cases h
  | some .dead, h => cases h
def agr (x : Cl) (σ σ2 : Sig) : Prop := match x with
  | .pure => True
  | .rd m => ∀ k : Nat, Nat.testBit m k = true → σ2[k]? = σ[k]?
  | .sh m => ∀ k : Nat, Nat.testBit m k = true → shapeP σ2[k]? = shapeP σ[k]?
  | _ => σ2 = σ
def eff (x : Cl) (σ s : Sig) : Prop := match x with
  | .wrAll => True
  | .wr m => (∀ k : Nat, shapeP s[k]? = shapeP σ[k]?) ∧ ∀ k : Nat, Nat.testBit m k = false → s[k]? = σ[k]?
  | .wl m n => ∀ k : Nat, k < n → Nat.testBit m k = false → s[k]? = σ[k]?
  | _ => s = σ
theorem agr_refl (x : Cl) (σ : Sig) : agr x σ σ := by cases x <;> simp [agr]
theorem agr_symm {x : Cl} {σ s : Sig} (h : agr x σ s) : agr x s σ := by
  cases x with
  | pure => trivial
  | rd m => exact fun k hk => (h k hk).symm
  | sh m => exact fun k hk => (h k hk).symm
  | _ => exact Eq.symm h
theorem agr_trans {x : Cl} {σ s u : Sig} (h : agr x σ s) (k : agr x s u) : agr x σ u := by
  cases x with
  | pure => trivial
  | rd m => exact fun i hi => (k i hi).trans (h i hi)
  | sh m => exact fun i hi => (k i hi).trans (h i hi)
  | _ => exact (Eq.trans k h : u = σ)
theorem eff_keep {x : Cl} {σ s : Sig} (h : eff x σ s) (hx : isW x = false) : s = σ := by
  cases x <;> first | exact h | cases hx
theorem and_bit {a b k : Nat} (h : Nat.beq (Nat.land a b) 0 = true) (hk : Nat.testBit b k = true) : Nat.testBit a k = false := by
  have e : a &&& b = 0 := Nat.eq_of_beq_eq_true h
  have := Nat.testBit_and a b k
  rw [e, hk] at this
  simpa using this.symm
theorem lt_bit {b n k : Nat} (h : Nat.blt b (2 ^ n) = true) (hk : Nat.testBit b k = true) : k < n := by
  have h : b < 2 ^ n := by simpa [Nat.blt_eq] using h
  rcases Nat.lt_or_ge k n with e | e
  · exact e
  · have := Nat.testBit_lt_two_pow (Nat.lt_of_lt_of_le h (Nat.pow_le_pow_right (by decide) e))
    rw [hk] at this
    cases this
theorem eff_agr {x y : Cl} {σ s : Sig} (hw : isW x = true) (hh : hits x y = false) (he : eff x σ s) : agr y σ s := by
  cases y with
  | pure => trivial
  | rd m' =>
    cases x with
    | wr m => exact fun k hk => he.2 k (and_bit (by simpa [hits] using hh) hk)
    | wl m n =>
      simp only [hits, Bool.not_eq_false', Bool.and_eq_true] at hh
      exact fun k hk => he k (lt_bit hh.2 hk) (and_bit hh.1 hk)
    | wrAll => cases hh
    | _ => cases hw
  | sh m' =>
    cases x with
    | wr m => exact fun k _ => he.1 k
    | wl m n =>
      simp only [hits, Bool.not_eq_false', Bool.and_eq_true] at hh
      exact fun k hk => congrArg shapeP (he k (lt_bit hh.2 hk) (and_bit hh.1 hk))
    | wrAll => cases hh
    | _ => cases hw
  | _ => cases x <;> first | cases hh | cases hw
theorem hits_wr {x y : Cl} (hx : isW x = true) (hy : isW y = true) : hits x y = true := by
  cases x <;> cases y <;> first | rfl | (cases hx; done) | (cases hy; done)
theorem bit_self (k : Nat) : Nat.testBit (2 ^ k) k = true := Nat.testBit_two_pow_self
theorem bit_ne {k i : Nat} (h : Nat.testBit (2 ^ k) i = false) : i ≠ k := fun e => by rw [e, bit_self] at h; cases h

/-! ### what one operation has to do with memory -/
def setS (σ : Sig) (t : Tri) : Tri := ⟨t.ok, t.pv, σ⟩
theorem setS_some {x : Option Tri} {σ : Sig} {t : Tri} (h : x.map (setS σ) = some t) : t.σ = σ ∧ ∀ σ2, x.map (setS σ2) = some ⟨t.ok, t.pv, σ2⟩ := by
  cases x with
  | none => cases h
  | some q => cases h; exact ⟨rfl, fun _ => rfl⟩

theorem oNil_pure (p : PV) (σ : Sig) : oNil p σ = (oNil p []).map (setS σ) := by cases p <;> rfl
theorem oFieldAddr_same {s : TypeId} {p : PV} {i : Nat} {σ : Sig} {tr : Tri} (h : oFieldAddr P s p i σ = some tr) : tr.σ = σ := by
  unfold oFieldAddr at h
  repeat' split at h
  all_goals first | (cases h; rfl) | cases h
theorem oFieldAddr_pure (s : TypeId) {p : PV} (hp : ∀ k a n g, p ≠ .apl k a n g) (i : Nat) (σ : Sig) : oFieldAddr P s p i σ = (oFieldAddr P s p i []).map (setS σ) := by
  unfold oFieldAddr
  split
  · split
    · rfl
    · cases p <;> first | rfl | exact absurd rfl (hp _ _ _ _)
  · rfl
theorem oField_pure (s : TypeId) (p : PV) (i : Nat) (σ : Sig) : oField P s p i σ = (oField P s p i []).map (setS σ) := by
  unfold oField
  split
  · cases p with
    | agg cs => simp only; split <;> rfl
    | _ => rfl
  · rfl
theorem oIndex_pure (t : TypeId) (p q : PV) (σ : Sig) : oIndex P t p q σ = (oIndex P t p q []).map (setS σ) := by
  unfold oIndex
  split
  · split
    · rfl
    · split
      · split <;> rfl
      · rfl
    · rfl
  · rfl
theorem oExtract_pure (p : PV) (i : Nat) (σ : Sig) : oExtract p i σ = (oExtract p i []).map (setS σ) := by
  cases p with
  | tup vs => simp only [oExtract]; split <;> rfl
  | _ => rfl
theorem oEq_pure (neg : Bool) (t : TypeId) (ps qs : List PV) (σ : Sig) : oEq P neg t ps qs σ = (oEq P neg t ps qs []).map (setS σ) := by
  unfold oEq
  repeat' split
  all_goals rfl
theorem oBin_pure (op : BinOp) (t : TypeId) (x y : Operand) (p q : PV) (σ : Sig) : oBin P op t x y p q σ = (oBin P op t x y p q []).map (setS σ) := by
  unfold oBin
  split
  · exact oEq_pure _ _ _ _ _
  · exact oEq_pure _ _ _ _ _
  · split
    · split <;> rfl
    · rfl
theorem oUn_pure (op : UnOp) (p : PV) (σ : Sig) : oUn P op p σ = (oUn P op p []).map (setS σ) := by
  unfold oUn
  split
  · split <;> rfl
  · rfl
theorem oMinMax_pure (mx : Bool) (ps : List PV) (σ : Sig) : oMinMax mx ps σ = (oMinMax mx ps []).map (setS σ) := by
  unfold oMinMax
  split
  · split <;> rfl
  · rfl

theorem oLoad_same {t : TypeId} {p : PV} {σ : Sig} {tr : Tri} (h : oLoad P t p σ = some tr) : tr.σ = σ := by
  unfold oLoad at h
  repeat' split at h
  all_goals first | (cases h; rfl) | cases h
theorem oLoad_pure {t : TypeId} {p : PV} (hp : (∃ r x o, p = .ep r x o) ∨ ∃ k xs n, p = .apr k xs n) (σ : Sig) : oLoad P t p σ = (oLoad P t p []).map (setS σ) := by
  have h1 : ∀ k n, loadArr k n σ p = loadArr k n [] p := by rcases hp with ⟨r, x, o, rfl⟩ | ⟨k, xs, n, rfl⟩ <;> intros <;> rfl
  have h2 : ∀ a n, loadP a n σ p = loadP a n [] p := by rcases hp with ⟨r, x, o, rfl⟩ | ⟨k, xs, n, rfl⟩ <;> intros <;> rfl
  unfold oLoad
  simp only [h1, h2]
  repeat' split
  all_goals rfl
theorem oIndexAddr_same {t : TypeId} {p q : PV} {σ : Sig} {tr : Tri} (h : oIndexAddr P t p q σ = some tr) : tr.σ = σ := by
  unfold oIndexAddr at h
  repeat' split at h
  all_goals first | (cases h; rfl) | cases h
theorem oIndexAddr_pure {t : TypeId} {a : Bool} {r : Sh} {xs : List r.den} {q : PV} (σ : Sig) : oIndexAddr P t (.rows a r xs) q σ = (oIndexAddr P t (.rows a r xs) q []).map (setS σ) := by
  unfold oIndexAddr
  split
  · split
    · simp only; split <;> rfl
    · rfl
    · rfl
  · rfl
theorem oSlice_same {t : TypeId} {p : PV} {lo hi : Option PV} {σ : Sig} {tr : Tri} (h : oSlice P t p lo hi σ = some tr) : tr.σ = σ := by
  unfold oSlice at h
  repeat' split at h
  all_goals first | (cases h; rfl) | cases h
theorem oSlice_pure {t : TypeId} {p : PV} {lo hi : Option PV} (hp : (∃ x, p = .v x) ∨ ∃ a r xs, p = .rows a r xs) (σ : Sig) : oSlice P t p lo hi σ = (oSlice P t p lo hi []).map (setS σ) := by
  rcases hp with ⟨x, rfl⟩ | ⟨a, r, xs, rfl⟩
  · unfold oSlice
    split
    · cases x with
      | string s => simp only; split <;> rfl
      | _ => rfl
    · rfl
    · rfl
    · rfl
  · unfold oSlice
    split
    · rfl
    · simp only
      split
      · split <;> rfl
      · rfl
    · rfl
    · rfl
theorem oSlice3_same {t : TypeId} {z : Bool} {p : PV} {lo : Option PV} {hi mx : PV} {σ : Sig} {tr : Tri} (h : oSlice3 P t z p lo hi mx σ = some tr) : tr.σ = σ := by
  unfold oSlice3 at h
  repeat' split at h
  all_goals first | (cases h; rfl) | cases h
theorem oSlice3_pure {t : TypeId} {z : Bool} {p : PV} {lo : Option PV} {hi mx : PV} (hp : (∃ x, p = .v x) ∨ ∃ a r xs, p = .rows a r xs) (σ : Sig) : oSlice3 P t z p lo hi mx σ = (oSlice3 P t z p lo hi mx []).map (setS σ) := by
  have hr : rowOf σ p = rowOf [] p := by rcases hp with ⟨x, rfl⟩ | ⟨a, r, xs, rfl⟩ <;> rfl
  unfold oSlice3
  split
  · split
    · cases z with
      | true =>
        simp only
        rcases hp with ⟨x, rfl⟩ | ⟨a, r, xs, rfl⟩
        · split
          · split <;> rfl
          · rfl
        · simp only [rowOf]
          split <;> rfl
      | false =>
        simp only
        rcases hp with ⟨x, rfl⟩ | ⟨a, r, xs, rfl⟩
        · rfl
        · simp only
          split <;> rfl
    · rfl
  · rfl
theorem oBuildArr_same {t : TypeId} {ps : List (Nat × PV)} {σ : Sig} {tr : Tri} (h : oBuildArr P t ps σ = some tr) : tr.σ = σ := by
  unfold oBuildArr at h
  repeat' split at h
  all_goals first | (cases h; rfl) | cases h
theorem oArrayAt_same {t : TypeId} {p : PV} {σ : Sig} {tr : Tri} (h : oArrayAt P t p σ = some tr) : tr.σ = σ := by
  unfold oArrayAt at h
  repeat' split at h
  all_goals first | (cases h; rfl) | cases h
theorem oArrayAt_pure {t : TypeId} {a : Bool} {r : Sh} {xs : List r.den} (σ : Sig) : oArrayAt P t (.rows a r xs) σ = (oArrayAt P t (.rows a r xs) []).map (setS σ) := by
  unfold oArrayAt
  split
  · cases r <;> rfl
  · rfl
theorem oLen_same {t : TypeId} {p : PV} {σ : Sig} {tr : Tri} (h : oLen P t p σ = some tr) : tr.σ = σ := by
  unfold oLen at h
  repeat' split at h
  all_goals first | (cases h; rfl) | cases h
theorem oBuild_same {t : TypeId} {ps : List (Nat × PV)} {σ : Sig} {tr : Tri} (h : oBuild P t ps σ = some tr) : tr.σ = σ := by
  unfold oBuild at h
  repeat' split at h
  all_goals first | (cases h; rfl) | cases h
theorem oBuildSlice_same {t : TypeId} {n : Nat} {ps : List (Nat × PV)} {σ : Sig} {tr : Tri} (h : oBuildSlice P t n ps σ = some tr) : tr.σ = σ := by
  unfold oBuildSlice at h
  repeat' split at h
  all_goals first | (cases h; rfl) | cases h
theorem oConvert_v {s d : TypeId} {x : Value} (hx : ∀ b, x ≠ .string b) (σ : Sig) : oConvert P s d (.v x) σ = (oConvert P s d (.v x) []).map (setS σ) := by
  unfold oConvert
  split
  · cases x with
    | string b => exact absurd rfl (hx b)
    | _ => simp only [oConvert0]; split <;> rfl
  · rfl
theorem oConvert_same {s d : TypeId} {p : PV} {σ : Sig} {tr : Tri} (hp : ∀ b, p ≠ .v (.string b)) (h : oConvert P s d p σ = some tr) : tr.σ = σ := by
  cases p with
  | v x => rw [oConvert_v (fun b e => hp b (by rw [e]))] at h; exact (setS_some h).1
  | _ =>
    unfold oConvert oConvert0 at h
    repeat' split at h
    all_goals first | contradiction | (cases h; rfl) | cases h


/-! ### what looks at some places alone -/
theorem oIndexAddr_sh {t : TypeId} {p q : PV} {σ : Sig} {tr : Tri} (hp : shC p ≠ .rdAll) (h : oIndexAddr P t p q σ = some tr) {σ2 : Sig} (ha : agr (shC p) σ σ2) : oIndexAddr P t p q σ2 = some ⟨tr.ok, tr.pv, σ2⟩ := by
  cases p with
  | rows a r xs => rw [oIndexAddr_pure] at h ⊢; exact (setS_some h).2 σ2
  | v x =>
    unfold oIndexAddr at h
    repeat' split at h
    all_goals first | contradiction | cases h
  | own k g =>
    have hs := ha k (bit_self k)
    unfold oIndexAddr at h ⊢
    repeat' split at h
    all_goals first | contradiction | cases h
    all_goals try cases ‹PV.own k g = PV.own _ _›
    all_goals obtain ⟨ys, hl, h2⟩ := shape_some hs (by assumption)
    all_goals simp_all
  | ref k i m g =>
    have hs := ha k (bit_self k)
    unfold oIndexAddr at h ⊢
    repeat' split at h
    all_goals first | contradiction | cases h
    all_goals try cases ‹PV.ref k i m g = PV.ref _ _ _ _›
    all_goals obtain ⟨ys, hl, h2⟩ := shape_some hs (by assumption)
    all_goals simp_all
  | apl k i m g =>
    have hs := ha k (bit_self k)
    unfold oIndexAddr at h ⊢
    repeat' split at h
    all_goals first | contradiction | cases h
    all_goals try cases ‹PV.apl k i m g = PV.apl _ _ _ _›
    all_goals obtain ⟨ys, hl, h2⟩ := shape_some hs (by assumption)
    all_goals simp_all
  | _ => exact absurd rfl hp

theorem oSlice_sh {t : TypeId} {p : PV} {lo hi : Option PV} {σ : Sig} {tr : Tri} (hp : shC p ≠ .rdAll) (h : oSlice P t p lo hi σ = some tr) {σ2 : Sig} (ha : agr (shC p) σ σ2) : oSlice P t p lo hi σ2 = some ⟨tr.ok, tr.pv, σ2⟩ := by
  cases p with
  | rows a r xs => rw [oSlice_pure (.inr ⟨_, _, _, rfl⟩)] at h ⊢; exact (setS_some h).2 σ2
  | v x => rw [oSlice_pure (.inl ⟨_, rfl⟩)] at h ⊢; exact (setS_some h).2 σ2
  | own k g =>
    have hs := ha k (bit_self k)
    unfold oSlice at h ⊢
    repeat' split at h
    all_goals first | contradiction | cases h
    all_goals try cases ‹PV.own k g = PV.own _ _›
    all_goals obtain ⟨ys, hl, h2⟩ := shape_some hs (by assumption)
    all_goals simp_all
  | ref k i m g =>
    have hs := ha k (bit_self k)
    unfold oSlice at h ⊢
    repeat' split at h
    all_goals first | contradiction | cases h
    all_goals try cases ‹PV.ref k i m g = PV.ref _ _ _ _›
    all_goals obtain ⟨ys, hl, h2⟩ := shape_some hs (by assumption)
    all_goals simp_all
  | apl k i m g =>
    have hs := ha k (bit_self k)
    unfold oSlice at h ⊢
    repeat' split at h
    all_goals first | contradiction | cases h
    all_goals try cases ‹PV.apl k i m g = PV.apl _ _ _ _›
    all_goals obtain ⟨ys, hl, h2⟩ := shape_some hs (by assumption)
    all_goals simp_all
  | _ => exact absurd rfl hp

theorem oArrayAt_sh {t : TypeId} {p : PV} {σ : Sig} {tr : Tri} (hp : (∃ k g, p = .own k g) ∨ ∃ k i m g, p = .ref k i m g) (h : oArrayAt P t p σ = some tr) {σ2 : Sig} (ha : agr (shC p) σ σ2) : oArrayAt P t p σ2 = some ⟨tr.ok, tr.pv, σ2⟩ := by
  rcases hp with ⟨k, g, rfl⟩ | ⟨k, i, m, g, rfl⟩
  · --
    have hs := ha k (bit_self k)
    unfold oArrayAt at h ⊢
    repeat' split at h
    all_goals first | contradiction | cases h
    all_goals try cases ‹PV.own k g = PV.own _ _›
    all_goals obtain ⟨ys, hl, h2⟩ := shape_some hs (by assumption)
    all_goals simp_all
  · --
    have hs := ha k (bit_self k)
    unfold oArrayAt at h ⊢
    repeat' split at h
    all_goals first | contradiction | cases h
    all_goals try cases ‹PV.ref k i m g = PV.ref _ _ _ _›
    all_goals obtain ⟨ys, hl, h2⟩ := shape_some hs (by assumption)
    all_goals simp_all

theorem oLen_sh {t : TypeId} {p : PV} {σ : Sig} {tr : Tri} (hp : shC p ≠ .rdAll) (h : oLen P t p σ = some tr) {σ2 : Sig} (ha : agr (shC p) σ σ2) : oLen P t p σ2 = some ⟨tr.ok, tr.pv, σ2⟩ := by
  unfold oLen at h ⊢
  cases hu : P.underlying t with
  | none => rw [hu] at h; cases h
  | some d =>
    rw [hu] at h
    cases d with
    | string =>
      cases p with
      | v x => cases x <;> first | cases h; rfl | cases h
      | _ => cases h
    | slice e =>
      cases p with
      | rows a r xs => cases h; rfl
      | own k g =>
        have hs := ha k (bit_self k)
        simp only at h ⊢
        split at h
        · rename_i r xs g' hk
          obtain ⟨ys, hl, h2⟩ := shape_some hs hk
          rw [h2]
          simp only
          split at h
          · rename_i hg; rw [if_pos hg]; cases h; rw [hl]
          · cases h
        · cases h
      | ref k i m g =>
        have hs := ha k (bit_self k)
        simp only at h ⊢
        split at h
        · rename_i r xs g' hk
          obtain ⟨ys, hl, h2⟩ := shape_some hs hk
          rw [h2]
          simp only
          split at h
          · rename_i hg; rw [if_pos hg]; cases h; rfl
          · cases h
        · cases h
      | v x =>
        simp only at h ⊢
        split at h
        all_goals first | contradiction | skip
        rename_i e; cases e; cases h; rfl
      | _ => cases h
    | array n e => cases h; rfl
    | _ => cases h
theorem oFieldAddr_sh {s : TypeId} {k i m g j : Nat} {σ : Sig} {tr : Tri} (h : oFieldAddr P s (.apl k i m g) j σ = some tr) {σ2 : Sig} (ha : agr (.sh (2 ^ k)) σ σ2) : oFieldAddr P s (.apl k i m g) j σ2 = some ⟨tr.ok, tr.pv, σ2⟩ := by
  have hs := ha k (bit_self k)
  unfold oFieldAddr at h ⊢
  split at h
  · split at h
    · cases h
    · rename_i hz
      rw [if_neg hz]
      simp only at h ⊢
      split at h
      · rename_i hk
        obtain ⟨ys, hl, h2⟩ := shape_some hs hk
        rw [h2]
        simp only
        split at h
        · rename_i hg; rw [if_pos hg]; cases h; rfl
        · cases h
      · cases h
  · cases h
theorem oLoad_rd {t : TypeId} {p : PV} {k : Nat} (hp : (∃ o, p = .ptr k o) ∨ (∃ i o g, p = .rp k i o g) ∨ ∃ i m g, p = .apl k i m g) {σ : Sig} {tr : Tri} (h : oLoad P t p σ = some tr) {σ2 : Sig} (ha : agr (.rd (2 ^ k)) σ σ2) : oLoad P t p σ2 = some ⟨tr.ok, tr.pv, σ2⟩ := by
  have hs := ha k (bit_self k)
  have h1 : ∀ kd n, loadArr kd n σ2 p = loadArr kd n σ p := by
    rcases hp with ⟨o, rfl⟩ | ⟨i, o, g, rfl⟩ | ⟨i, m, g, rfl⟩
    · intros; rfl
    · intros; rfl
    · intro kd n; simp only [loadArr, hs]
  have h2 : ∀ a n, loadP a n σ2 p = loadP a n σ p := by
    rcases hp with ⟨o, rfl⟩ | ⟨i, o, g, rfl⟩ | ⟨i, m, g, rfl⟩
    · intro a n; simp only [loadP, hs]
    · intro a n; simp only [loadP, hs]
    · intros; rfl
  unfold oLoad at h ⊢
  simp only [h1, h2]
  repeat' split at h
  all_goals first | contradiction | cases h
  all_goals simp_all

/-! ### what writes into some places alone, or further ones -/
theorem add_eff {σ : Sig} (q : Place) : eff (.wl 0 σ.length) σ (σ ++ [q]) := fun k hk _ => by rw [List.getElem?_append_left hk]
theorem set_eff {σ : Sig} (k n : Nat) (q : Place) : eff (.wl (2 ^ k) n) σ (σ.set k q) := fun i _ hb => by
  have := bit_ne hb
  rw [List.getElem?_set_ne (fun e => this e.symm)]
theorem set_wr {σ : Sig} {k : Nat} {q : Place} (h : shapeP (some q) = shapeP σ[k]?) : eff (.wr (2 ^ k)) σ (σ.set k q) := by
  refine ⟨fun i => ?_, fun i hb => ?_⟩
  · by_cases e : i = k
    · subst e
      by_cases hl : i < σ.length
      · rw [List.getElem?_set_self hl, h]
      · rw [List.set_eq_of_length_le (by omega)]
    · rw [List.getElem?_set_ne (fun e' => e e'.symm)]
  · have := bit_ne hb
    rw [List.getElem?_set_ne (fun e => this e.symm)]
theorem storeP_eff {σ σ' : Sig} {a x : PV} {k : Nat} (ha : (∃ o, a = .ptr k o) ∨ ∃ i o g, a = .rp k i o g) (h : storeP σ a x = some σ') : eff (.wr (2 ^ k)) σ σ' := by
  unfold storeP at h
  rcases ha with ⟨o, rfl⟩ | ⟨i, o, g, rfl⟩
  · simp only at h
    split at h
    · rename_i hk
      split at h
      · cases h
        exact set_wr (by rw [hk]; rfl)
      · cases h
    · cases h
  · simp only at h
    split at h
    · rename_i hk
      split at h
      · split at h
        · cases h
          exact set_wr (by rw [hk]; simp [shapeP])
        · cases h
      · cases h
    · cases h
theorem oStore_eff {t : TypeId} {a x : PV} {k : Nat} (ha : (∃ o, a = .ptr k o) ∨ ∃ i o g, a = .rp k i o g) {σ : Sig} {tr : Tri} (h : oStore P t a x σ = some tr) : eff (.wr (2 ^ k)) σ tr.σ := by
  unfold oStore at h
  split at h
  · split at h
    · rcases ha with ⟨o, e⟩ | ⟨i, o, g, e⟩ <;> cases e
    · cases h
  · split at h
    · split at h
      · rename_i hs
        cases h
        exact storeP_eff ha hs
      · cases h
    · cases h
theorem oStore_apl {t : TypeId} {k i m g : Nat} {x : PV} {σ : Sig} {tr : Tri} (h : oStore P t (.apl k i m g) x σ = some tr) : eff (.wl (2 ^ k) σ.length) σ tr.σ := by
  unfold oStore at h
  split at h
  · split at h
    · rename_i e _
      cases e
      split at h
      · split at h
        · cases h; exact set_eff _ _ _
        · cases h
      · cases h
    · cases h
  · split at h
    · split at h
      · rename_i hs; cases hs
      · cases h
    · cases h
theorem oAlloc_eff {t : TypeId} {σ : Sig} {tr : Tri} (h : oAlloc P t σ = some tr) : eff (.wl 0 σ.length) σ tr.σ := by
  unfold oAlloc at h
  repeat' split at h
  all_goals first | contradiction | (cases h; exact add_eff _)
theorem oBox_eff {t : TypeId} {x : PV} {σ : Sig} {tr : Tri} (h : oBox P t x σ = some tr) : eff (.wl 0 σ.length) σ tr.σ := by
  unfold oBox at h
  repeat' split at h
  all_goals first | contradiction | (cases h; exact add_eff _)
theorem oMakeSlice_eff {t : TypeId} {p q : PV} {σ : Sig} {tr : Tri} (h : oMakeSlice P t p q σ = some tr) : eff (.wl 0 σ.length) σ tr.σ := by
  unfold oMakeSlice oMakeSlice2 at h
  repeat' split at h
  all_goals first | contradiction | (cases h; exact add_eff _)
theorem oConvert_eff {s d : TypeId} {b : ByteArray} {σ : Sig} {tr : Tri} (h : oConvert P s d (.v (.string b)) σ = some tr) : eff (.wl 0 σ.length) σ tr.σ := by
  unfold oConvert oConvert0 at h
  repeat' split at h
  all_goals first | contradiction | (cases h; first | exact add_eff _ | exact fun _ _ _ => rfl)
theorem oAppend_eff {t u : TypeId} {p q : PV} {σ : Sig} {tr : Tri} (h : oAppend P t u p q σ = some tr) : (∀ k g, p = .own k g → eff (.wl (2 ^ k) σ.length) σ tr.σ) ∧ ((∀ k g, p ≠ .own k g) → eff (.wl 0 σ.length) σ tr.σ) := by
  unfold oAppend at h
  repeat' split at h
  all_goals first | contradiction | skip
  all_goals cases h
  all_goals refine ⟨fun k g e => ?_, fun hne => ?_⟩
  all_goals first | (cases e; exact set_eff _ _ _) | cases e | exact absurd rfl (hne _ _) | exact add_eff _
theorem oCopy_eff {t : TypeId} {p q : PV} {σ : Sig} {tr : Tri} (h : oCopy P t p q σ = some tr) : ∀ k, ((∃ g, p = .own k g) ∨ ∃ i n g, p = .ref k i n g) → eff (.wl (2 ^ k) σ.length) σ tr.σ := by
  unfold oCopy at h
  repeat' split at h
  all_goals first | contradiction | skip
  all_goals cases h
  all_goals (rintro k (⟨g, e⟩ | ⟨i, n, g, e⟩) <;> first | (cases e; exact set_eff _ _ _) | cases e)

theorem bit_or {a b k : Nat} : Nat.testBit (Nat.lor a b) k = true ↔ Nat.testBit a k = true ∨ Nat.testBit b k = true := by
  show Nat.testBit (a ||| b) k = true ↔ _
  rw [Nat.testBit_or, Bool.or_eq_true]
def genB (q : Option Place) (g : Nat) : Bool := match q with
  | some (.rows _ _ g') => decide (g' = g)
  | _ => false
theorem shape_gen {q q2 : Option Place} (h : shapeP q2 = shapeP q) (g : Nat) : genB q2 g = genB q g := by
  match q, q2, h with
  | some (.rows r xs g1), q2, h =>
    obtain ⟨ys, _, rfl⟩ := shape_some h rfl
    rfl
  | none, some (.rows ..), h => cases h
  | some (.cells _), some (.rows ..), h => cases h
  | some .dead, some (.rows ..), h => cases h
  | none, none, _ => rfl
  | none, some (.cells _), _ => rfl
  | none, some .dead, _ => rfl
  | some (.cells _), none, _ => rfl
  | some (.cells _), some (.cells _), _ => rfl
  | some (.cells _), some .dead, _ => rfl
  | some .dead, none, _ => rfl
  | some .dead, some (.cells _), _ => rfl
  | some .dead, some .dead, _ => rfl
theorem live_sh {σ σ2 : Sig} : ∀ {cs : List PV}, agr (.sh (mskL cs)) σ σ2 → ∀ c ∈ cs, liveCell σ2 c = liveCell σ c := by
  intro cs
  induction cs with
  | nil => intro _ c hc; cases hc
  | cons x cs ih =>
    intro h c hc
    have hr : agr (.sh (mskL cs)) σ σ2 := by
      intro k hk
      refine h k ?_
      cases x <;> first | exact hk | exact bit_or.2 (.inr hk)
    rcases List.mem_cons.1 hc with rfl | hc
    · cases c with
      | own k g => exact shape_gen (h k (bit_or.2 (.inl (bit_self k)))) g
      | ref k i n g => exact shape_gen (h k (bit_or.2 (.inl (bit_self k)))) g
      | v x => cases x <;> rfl
      | _ => rfl
    · exact ih hr c hc
theorem fill_sh {σ σ2 : Sig} : ∀ {l : List (Nat × Nat × PV)} {cs : List PV}, (∀ x ∈ l, ∀ c ∈ pvCells x.2.2, liveCell σ2 c = liveCell σ c) → fillP σ2 cs l = fillP σ cs l := by
  intro l
  induction l with
  | nil => intro cs _; rfl
  | cons x l ih =>
    intro cs h
    obtain ⟨o, s, p⟩ := x
    have e : (pvCells p).all (liveCell σ2) = (pvCells p).all (liveCell σ) := by
      have := h _ (List.mem_cons_self ..)
      simp only at this
      generalize pvCells p = l at this
      induction l with
      | nil => rfl
      | cons a l ih => simp only [List.all_cons]; rw [this a (List.mem_cons_self ..), ih fun c hc => this c (List.mem_cons_of_mem _ hc)]
    simp only [fillP]
    rw [e, ih fun x hx => h x (List.mem_cons_of_mem _ hx)]
theorem parts_sh {σ σ2 : Sig} : ∀ {l : List (Nat × PV)}, agr (.sh (mskPs l)) σ σ2 → ∀ x ∈ l, ∀ c ∈ pvCells x.2, liveCell σ2 c = liveCell σ c := by
  intro l
  induction l with
  | nil => intro _ x hx; cases hx
  | cons y l ih =>
    intro h x hx
    obtain ⟨i, p⟩ := y
    rcases List.mem_cons.1 hx with rfl | hx
    · exact live_sh fun k hk => h k (bit_or.2 (.inl hk))
    · exact ih (fun k hk => h k (bit_or.2 (.inr hk))) x hx
theorem partsOf_mem {fs : Array Field} : ∀ {ps : List (Nat × PV)} {l : List (Nat × Nat × PV)}, partsOf P fs ps = some l → ∀ x ∈ l, ∃ y ∈ ps, y.2 = x.2.2 := by
  intro ps
  induction ps with
  | nil => intro l h x hx; cases h; cases hx
  | cons y ps ih =>
    intro l h x hx
    obtain ⟨i, p⟩ := y
    simp only [partsOf] at h
    split at h
    · split at h
      · rename_i l' hl
        cases h
        rcases List.mem_cons.1 hx with rfl | hx
        · exact ⟨_, List.mem_cons_self .., rfl⟩
        · obtain ⟨y, h1, h2⟩ := ih hl x hx
          exact ⟨y, List.mem_cons_of_mem _ h1, h2⟩
      · cases h
    · cases h
theorem oBuild_sh {t : TypeId} {ps : List (Nat × PV)} {σ : Sig} {tr : Tri} (h : oBuild P t ps σ = some tr) {σ2 : Sig} (ha : agr (.sh (mskPs ps)) σ σ2) : oBuild P t ps σ2 = some ⟨tr.ok, tr.pv, σ2⟩ := by
  have hl := parts_sh ha
  unfold oBuild at h ⊢
  split at h
  · split at h
    · split at h
      · rename_i hc
        split at h
        · rename_i l hp
          have : ∀ cs, fillP σ2 cs l = fillP σ cs l := fun cs => fill_sh fun x hx c hc => by
            obtain ⟨y, h1, h2⟩ := partsOf_mem hp x hx
            exact hl y h1 c (by rw [h2]; exact hc)
          rw [if_pos hc]
          simp only [this]
          split at h
          · rename_i hf; cases h; first | rfl | (rw [hf])
          · cases h
        · cases h
      · cases h
    · cases h
  · cases h
theorem oBuildArr_sh {t : TypeId} {ps : List (Nat × PV)} {σ : Sig} {tr : Tri} (h : oBuildArr P t ps σ = some tr) {σ2 : Sig} (ha : agr (.sh (mskPs ps)) σ σ2) : oBuildArr P t ps σ2 = some ⟨tr.ok, tr.pv, σ2⟩ := by
  have hl := parts_sh ha
  have hfe : ∀ cs, fillP σ2 cs (ps.map fun p => (p.1 * 1, 1, p.2)) = fillP σ cs (ps.map fun p => (p.1 * 1, 1, p.2)) := fun cs => fill_sh fun x hx c hc => by
    obtain ⟨y, h1, h2⟩ := List.mem_map.1 hx
    subst h2
    exact hl y h1 c hc
  unfold oBuildArr at h ⊢
  simp only [hfe]
  repeat' split at h
  all_goals first | contradiction | cases h
  all_goals simp_all
theorem oBuildSlice_sh {t : TypeId} {n : Nat} {ps : List (Nat × PV)} {σ : Sig} {tr : Tri} (h : oBuildSlice P t n ps σ = some tr) {σ2 : Sig} (ha : agr (.sh (mskPs ps)) σ σ2) : oBuildSlice P t n ps σ2 = some ⟨tr.ok, tr.pv, σ2⟩ := by
  have hl := parts_sh ha
  have hfe : ∀ m cs, fillP σ2 cs (ps.map fun p => (p.1 * m, m, p.2)) = fillP σ cs (ps.map fun p => (p.1 * m, m, p.2)) := fun m cs => fill_sh fun x hx c hc => by
    obtain ⟨y, h1, h2⟩ := List.mem_map.1 hx
    subst h2
    exact hl y h1 c hc
  unfold oBuildSlice at h ⊢
  simp only [hfe]
  repeat' split at h
  all_goals first | contradiction | cases h
  all_goals simp_all

def Fit (F : Sig → Option Tri) (c : Cl) (σ : Sig) (t : Tri) : Prop := eff c σ t.σ ∧ (isW c = false → ∀ σ2, agr c σ σ2 → F σ2 = some ⟨t.ok, t.pv, σ2⟩)
theorem Fit.ofW {F : Sig → Option Tri} {c : Cl} {σ : Sig} {t : Tri} (hc : isW c = true) (h : eff c σ t.σ) : Fit F c σ t := ⟨h, fun e => by rw [hc] at e; cases e⟩
theorem Fit.same {F : Sig → Option Tri} {σ : Sig} {t : Tri} (h : F σ = some t) (hs : t.σ = σ) : Fit F .rdAll σ t := by
  refine ⟨hs, fun _ σ2 e => ?_⟩
  obtain rfl : σ2 = σ := e
  rw [h, ← hs]
theorem Fit.free {F : Sig → Option Tri} {c : Cl} (hw : isW c = false) {σ : Sig} {t : Tri} (hs : t.σ = σ) (h : ∀ σ2, agr c σ σ2 → F σ2 = some ⟨t.ok, t.pv, σ2⟩) : Fit F c σ t := by
  refine ⟨?_, fun _ => h⟩
  cases c <;> first | exact hs | cases hw
theorem Fit.pure {F : Sig → Option Tri} (hF : ∀ σ, F σ = (F []).map (setS σ)) {σ : Sig} {t : Tri} (h : F σ = some t) : Fit F .pure σ t := by
  rw [hF] at h
  obtain ⟨h1, h2⟩ := setS_some h
  exact .free rfl h1 fun σ2 _ => by rw [hF]; exact h2 σ2
theorem Fit.ext {F G : Sig → Option Tri} (e : ∀ σ, F σ = G σ) {c : Cl} {σ : Sig} {t : Tri} (h : Fit F c σ t) : Fit G c σ t := ⟨h.1, fun hw σ2 ha => by rw [← e]; exact h.2 hw σ2 ha⟩

theorem stp_cls {qt : FuncId → List PV → Sig → Cl} {f : Fr} {σ : Sig} {o : Oper} {t : Tri} (ho : ∀ g args ts, o.op ≠ .call { callee := .value g, args := args, argTypes := ts }) (h : stp P f σ o = some t) :
    Fit (fun σ => stp P f σ o) (clsOf qt f σ o) σ t := by
  unfold stp at h ⊢
  unfold clsOf
  generalize o.op = op at h ho ⊢
  have shW : ∀ {p : PV}, isW (shC p) = false := by intro p; cases p <;> rfl
  cases op with
  | move x => cases h; exact .free rfl rfl fun _ _ => rfl
  | assign x => cases h; exact .free rfl rfl fun _ _ => rfl
  | nilCheck x => exact .pure (oNil_pure (ev f x)) h
  | fieldAddr s x i =>
    simp only at h ⊢
    split
    · rename_i e
      rw [e] at h ⊢
      exact .free rfl (oFieldAddr_same h) fun _ ha => oFieldAddr_sh h ha
    · rename_i hne
      exact .pure (oFieldAddr_pure s (fun k a n g e => hne k a n g e) i) h
  | field s x i => exact .pure (oField_pure s (ev f x) i) h
  | index s x y => exact .pure (oIndex_pure s (ev f x) (ev f y)) h
  | extract x i => exact .pure (oExtract_pure (ev f x) i) h
  | binOp op s x y yt => exact .pure (oBin_pure op s x y (ev f x) (ev f y)) h
  | unOp op s x => exact .pure (oUn_pure op (ev f x)) h
  | load s x =>
    simp only at h ⊢
    split
    · rename_i e; rw [e] at h ⊢; exact .pure (oLoad_pure (.inl ⟨_, _, _, rfl⟩)) h
    · rename_i e; rw [e] at h ⊢; exact .pure (oLoad_pure (.inr ⟨_, _, _, rfl⟩)) h
    · rename_i e; rw [e] at h ⊢; exact .free rfl (oLoad_same h) fun _ ha => oLoad_rd (.inl ⟨_, rfl⟩) h ha
    · rename_i e; rw [e] at h ⊢; exact .free rfl (oLoad_same h) fun _ ha => oLoad_rd (.inr (.inl ⟨_, _, _, rfl⟩)) h ha
    · rename_i e; rw [e] at h ⊢; exact .free rfl (oLoad_same h) fun _ ha => oLoad_rd (.inr (.inr ⟨_, _, _, rfl⟩)) h ha
    · exact .same h (oLoad_same h)
  | indexAddr s x y =>
    simp only at h ⊢
    by_cases hp : shC (ev f x) = .rdAll
    · rw [hp]; exact .same h (oIndexAddr_same h)
    · exact .free shW (oIndexAddr_same h) fun _ ha => oIndexAddr_sh hp h ha
  | slice s x lo hi mx =>
    cases mx with
    | some m =>
      cases hi with
      | none => cases h
      | some hi =>
      simp only at h ⊢
      split
      · rename_i e; rw [e] at h ⊢; exact .pure (oSlice3_pure (.inl ⟨_, rfl⟩)) h
      · rename_i e; rw [e] at h ⊢; exact .pure (oSlice3_pure (.inr ⟨_, _, _, rfl⟩)) h
      · exact .same h (oSlice3_same h)
    | none =>
      simp only at h ⊢
      by_cases hp : shC (ev f x) = .rdAll
      · rw [hp]; exact .same h (oSlice_same h)
      · exact .free shW (oSlice_same h) fun _ ha => oSlice_sh hp h ha
  | sliceToArrayPointer s x =>
    simp only at h ⊢
    split
    · rename_i e; rw [e] at h ⊢; exact .pure oArrayAt_pure h
    · rename_i e; rw [e] at h ⊢; exact .free rfl (oArrayAt_same h) fun _ ha => oArrayAt_sh (.inl ⟨_, _, rfl⟩) h ha
    · rename_i e; rw [e] at h ⊢; exact .free rfl (oArrayAt_same h) fun _ ha => oArrayAt_sh (.inr ⟨_, _, _, _, rfl⟩) h ha
    · exact .same h (oArrayAt_same h)
  | build s parts =>
    simp only at h ⊢
    cases hb : isArrT P s with
    | true => rw [hb] at h; exact .free (F := fun σ => oBuildArr P s (partsE f parts.toList) σ) rfl (oBuildArr_same h) fun _ ha => oBuildArr_sh h ha
    | false => rw [hb] at h; exact .free (F := fun σ => oBuild P s (partsE f parts.toList) σ) rfl (oBuild_same h) fun _ ha => oBuild_sh h ha
  | buildSlice s n parts => exact .free rfl (oBuildSlice_same h) fun _ ha => oBuildSlice_sh h ha
  | convert s d x =>
    simp only at h ⊢
    split
    · rename_i e; rw [e] at h; exact .ofW rfl (oConvert_eff h)
    · rename_i y hy e
      rw [e] at h ⊢
      exact .pure (oConvert_v (fun b eb => hy b eb)) h
    · rename_i h1 h2
      exact .same h (oConvert_same (fun b e => h2 _ e) h)
  | makeFunc fn first captured =>
    cases fn with
    | func g =>
      simp only at h ⊢
      split at h
      · rename_i hc
        cases h
        exact .free rfl rfl fun σ2 _ => by rw [if_pos hc]
      · cases h
    | _ => cases h
  | call c =>
    obtain ⟨callee, args, ts⟩ := c
    cases callee with
    | value g => exact absurd rfl (ho g args ts)
    | invoke r m => cases h
    | builtin b =>
      simp only at h ⊢
      unfold oBuiltin at h
      split at h
      · rename_i p ht hp
        have e : ∀ σ, oBuiltin P .len ts.toList (evs f args.toList) σ = oLen P _ p σ := fun σ => by rw [hp, ht]; rfl
        refine Fit.ext (F := fun σ => oLen P _ p σ) (fun σ => (e σ).symm) ?_
        simp only [hp]
        by_cases hq : shC p = .rdAll
        · rw [hq]; exact .same h (oLen_same h)
        · exact .free shW (oLen_same h) fun _ ha => oLen_sh hq h ha
      · rename_i p q ht hp
        simp only [hp]
        have := oAppend_eff h
        split
        · rename_i e; cases e; exact .ofW rfl (this.1 _ _ rfl)
        · rename_i e; cases e; exact .ofW rfl (this.2 (fun _ _ e => by cases e))
        · rename_i e; cases e; exact .ofW rfl (this.2 (fun _ _ e => by cases e))
        · exact .ofW rfl trivial
      · exact .pure (oMinMax_pure false _) h
      · exact .pure (oMinMax_pure true _) h
      · rename_i p q ht hp
        simp only [hp]
        split
        · rename_i e; cases e; exact .ofW rfl (oCopy_eff h _ (.inl ⟨_, rfl⟩))
        · rename_i e; cases e; exact .ofW rfl (oCopy_eff h _ (.inr ⟨_, _, _, rfl⟩))
        · exact .ofW rfl trivial
      · cases h
  | store t a x =>
    simp only at h ⊢
    split
    · rename_i e; rw [e] at h; exact .ofW rfl (oStore_eff (.inl ⟨_, rfl⟩) h)
    · rename_i e; rw [e] at h; exact .ofW rfl (oStore_eff (.inr ⟨_, _, _, rfl⟩) h)
    · rename_i e; rw [e] at h; exact .ofW rfl (oStore_apl h)
    · exact .ofW rfl trivial
  | alloc t => exact .ofW rfl (oAlloc_eff h)
  | box t x => exact .ofW rfl (oBox_eff h)
  | makeSlice t x y => exact .ofW rfl (oMakeSlice_eff h)
  | _ => cases h

theorem oAlt_cls {alt : List Nat} {qt : FuncId → List PV → Sig → Cl} {f : Fr} {σ : Sig} {o : Oper} {t : Tri} (ha : dstIn o alt = true) (h : oAlt P f σ o = some t) :
    Fit (fun σ => oAlt P f σ o) (clsA alt qt f σ o) σ t := by
  unfold oAlt at h ⊢
  unfold clsA
  rw [ha]
  simp only [cond_true]
  generalize o.op = op at h ⊢
  cases op with
  | convert s d x =>
    simp only at h ⊢
    split at h
    · split at h
      · split at h
        · cases h; exact .free rfl rfl fun σ2 _ => rfl
        · cases h
      · cases h
    · cases h
  | buildSlice t n parts => exact .ofW rfl trivial
  | slice t x lo hi mx => exact .ofW rfl trivial
  | _ => cases h

end Go.Proofs.YtcngjidojibleaaPM
