/- Fields and their bytes: where one stands in the table, and what both packages lay. -/
import Derived.Test.YthkjjombaoffcaaDoorQFldAFnFields
set_option linter.unusedVariables false
set_option linter.unusedSectionVars false
set_option linter.unusedSimpArgs false
namespace Go.Proofs.YthkjjombaoffcaaDoor.CFnFields
open Go Go.Proofs Go.Proofs.YthkjjombaoffcaaDoorPM Go.Proofs.YthkjjombaoffcaaDoor.Q Go.Proofs.YthkjjombaoffcaaDoor.GFnFields

abbrev FSh : Sh := .pair .str .str
theorem rdF (l : List Fd) (x : Fd) (r : List Fd) : rdS FSh (l ++ x :: r) (Int.toNat (l.length : Int)) = x := by
  unfold rdS
  rw [Int.toNat_natCast, List.getD_eq_getElem?_getD, List.getElem?_append_right (Nat.le_refl _), Nat.sub_self]
  rfl
/-- The first place where p holds, or -1. -/
def idx (p : Fd → Bool) : Int → List Fd → Int
  | _, [] => -1
  | i, x :: r => if p x = true then i else idx p (i + 1) r
theorem idx_ok (p : Fd → Bool) : ∀ (r : List Fd) (i : Int), 0 ≤ i → -1 ≤ idx p i r ∧ idx p i r < i + r.length ∧ (0 ≤ idx p i r → i ≤ idx p i r ∧ p (rdS FSh r (Int.toNat (idx p i r - i))) = true) := by
  intro r
  induction r with
  | nil => intro i hi; refine ⟨Int.le_refl _, ?_, fun h => ?_⟩ <;> unfold idx at * <;> simp at * <;> omega
  | cons x r ih =>
    intro i hi
    unfold idx
    by_cases h : p x = true
    · rw [if_pos h]
      refine ⟨by omega, by simp; omega, fun _ => ⟨Int.le_refl _, ?_⟩⟩
      rw [Int.sub_self]
      exact h
    · rw [if_neg h]
      obtain ⟨h1, h2, h3⟩ := ih (i + 1) (by omega)
      refine ⟨h1, by simp; omega, fun h0 => ?_⟩
      obtain ⟨h4, h5⟩ := h3 h0
      refine ⟨by omega, ?_⟩
      rw [show Int.toNat (idx p (i + 1) r - i) = Int.toNat (idx p (i + 1) r - (i + 1)) + 1 by omega]
      exact h5
def eqF (f : Fd) : Fd → Bool := fun x => decide (f.1 = x.1) && decide (f.2 = x.2)
def nmF (f : Fd) : Fd → Bool := fun x => decide (x.1 = f.1)
theorem eqF_eq {f x : Fd} (h : eqF f x = true) : x = f := by
  unfold eqF at h
  rw [Bool.and_eq_true, decide_eq_true_eq, decide_eq_true_eq] at h
  exact Prod.ext h.1.symm h.2.symm
theorem eqF_sym (f x : Fd) : (decide (x.1 = f.1) && decide (x.2 = f.2)) = eqF f x := by
  unfold eqF
  rw [decide_eq_decide.2 (show x.1 = f.1 ↔ f.1 = x.1 from ⟨Eq.symm, Eq.symm⟩), decide_eq_decide.2 (show x.2 = f.2 ↔ f.2 = x.2 from ⟨Eq.symm, Eq.symm⟩)]
def exactF (f : Fd) : Int := idx (eqF f) 0 statT
def namedF (f : Fd) : Int := idx (nmF f) 0 statT
theorem stat_len : statT.length = 16 := rfl
theorem exactF_ok (f : Fd) : -1 ≤ exactF f ∧ exactF f ≤ 15 ∧ (0 ≤ exactF f → rdS FSh statT (Int.toNat (exactF f)) = f) := by
  obtain ⟨h1, h2, h3⟩ := idx_ok (eqF f) statT 0 (Int.le_refl _)
  unfold exactF
  rw [stat_len] at h2
  exact ⟨h1, by omega, fun h => by have := (h3 h).2; rw [Int.sub_zero] at this; exact eqF_eq this⟩
theorem namedF_ok (f : Fd) : -1 ≤ namedF f ∧ namedF f ≤ 15 ∧ (0 ≤ namedF f → (rdS FSh statT (Int.toNat (namedF f))).1 = f.1) := by
  obtain ⟨h1, h2, h3⟩ := idx_ok (nmF f) statT 0 (Int.le_refl _)
  unfold namedF
  rw [stat_len] at h2
  exact ⟨h1, by omega, fun h => by have := (h3 h).2; rw [Int.sub_zero] at this; exact of_decide_eq_true this⟩
theorem index_l (f : Fd) : ∀ (r l L : List Fd), L = l ++ r → L.length ≤ 1000 →
    EvP (fun N => slices_Indeximpl_Field_impl_Field.l0 N L (L.length : Int) (l.length : Int) f.1 f.2) (fun z => (idx (eqF f) l.length r < 0 → z = .inr ((), ((f.1, (f.2, ())), ()))) ∧ (0 ≤ idx (eqF f) l.length r → z = .inl ((idx (eqF f) l.length r, ()), ((f.1, (f.2, ())), ())))) := by
  intro r
  induction r with
  | nil =>
    intro l L e hL
    rw [List.append_nil] at e
    subst e
    exact EvP.step (fun N => slices_Indeximpl_Field_impl_Field.l0.eq N _ _ _ _ _) (EvP.neg (by omega) (EvP.some ⟨fun _ => rfl, fun h => by unfold idx at h; omega⟩))
  | cons x r ih =>
    intro l L e hL
    have hlen : L.length = l.length + (r.length + 1) := by rw [e, List.length_append, List.length_cons]
    refine EvP.step (fun N => slices_Indeximpl_Field_impl_Field.l0.eq N _ _ _ _ _) (EvP.pos (by omega) (EvP.chk2 (by omega) (by omega) ?_))
    have hx : rdS FSh L (Int.toNat (l.length : Int)) = x := by rw [e]; exact rdF l x r
    have hw : IntKind.i64.wrap ((l.length : Int) + 1) = (((l ++ [x]).length : Nat) : Int) := by rw [i64w (by omega) (by omega), List.length_append]; rfl
    have hw2 : (((l ++ [x]).length : Nat) : Int) = (l.length : Int) + 1 := by rw [List.length_append]; rfl
    simp only [hx, hw]
    unfold idx
    refine EvP.sel (fun h => EvP.some ?_) (fun h => ?_)
    · rw [if_pos (show eqF f x = true from h)]
      exact ⟨fun h => by omega, fun _ => rfl⟩
    · rw [if_neg (by rw [show eqF f x = false from h]; decide)]
      have hi := ih (l ++ [x]) L (by rw [e, List.append_assoc]; rfl) hL
      rw [hw2] at hi ⊢
      exact hi
theorem index_i (f : Fd) : EvP (fun N => slices_Indeximpl_Field_impl_Field N statT f.1 f.2) (· = ((exactF f, ()), ())) := by
  refine EvP.of (fun N => slices_Indeximpl_Field_impl_Field.eq N _ _ _) (EvP.andK (index_l f statT [] statT rfl (by rw [stat_len]; omega)) fun z hz => ?_)
  have hr := (exactF_ok f).1
  by_cases h : exactF f < 0
  · rw [hz.1 h]
    exact EvP.inr (EvP.some (by rw [show exactF f = -1 by omega]))
  · rw [hz.2 (by show 0 ≤ exactF f; omega)]
    exact EvP.inl (EvP.some rfl)
theorem named_l (f : Fd) : ∀ (r l L : List Fd), L = l ++ r → L.length ≤ 1000 →
    EvP (fun N => slices_IndexFuncimpl_Field_impl_Field_2.l0 N L (L.length : Int) (l.length : Int) f.1 f.2) (fun z => (idx (nmF f) l.length r < 0 → z = .inr ((), ((f.1, (f.2, ())), ()))) ∧ (0 ≤ idx (nmF f) l.length r → z = .inl ((idx (nmF f) l.length r, ()), ((f.1, (f.2, ())), ())))) := by
  intro r
  induction r with
  | nil =>
    intro l L e hL
    rw [List.append_nil] at e
    subst e
    exact EvP.step (fun N => slices_IndexFuncimpl_Field_impl_Field_2.l0.eq N _ _ _ _ _) (EvP.neg (by omega) (EvP.some ⟨fun _ => rfl, fun h => by unfold idx at h; omega⟩))
  | cons x r ih =>
    intro l L e hL
    have hlen : L.length = l.length + (r.length + 1) := by rw [e, List.length_append, List.length_cons]
    refine EvP.step (fun N => slices_IndexFuncimpl_Field_impl_Field_2.l0.eq N _ _ _ _ _) (EvP.pos (by omega) (EvP.chk2 (by omega) (by omega) ?_))
    have hx : rdS FSh L (Int.toNat (l.length : Int)) = x := by rw [e]; exact rdF l x r
    have hw : IntKind.i64.wrap ((l.length : Int) + 1) = (((l ++ [x]).length : Nat) : Int) := by rw [i64w (by omega) (by omega), List.length_append]; rfl
    have hw2 : (((l ++ [x]).length : Nat) : Int) = (l.length : Int) + 1 := by rw [List.length_append]; rfl
    simp only [hx, hw]
    refine EvP.to (a := ((nmF f x, ()), ((f.1, (f.2, ())), ()))) (EvP.of (fun N => impl_StaticAt_1.eq N _ _ _ _) (EvP.some rfl)) ?_
    unfold idx
    refine EvP.sel (fun h => EvP.some ?_) (fun h => ?_)
    · rw [if_pos (show nmF f x = true from h)]
      exact ⟨fun h => by omega, fun _ => rfl⟩
    · rw [if_neg (by rw [show nmF f x = false from h]; decide)]
      have hi := ih (l ++ [x]) L (by rw [e, List.append_assoc]; rfl) hL
      rw [hw2] at hi ⊢
      exact hi
theorem at_i (f : Fd) : EvP (fun N => impl_StaticAt N f.1 f.2) (· = ((exactF f, (namedF f, ())), ())) := by
  refine EvP.of (fun N => impl_StaticAt.eq N _ _) (EvP.to static_i (EvP.to (index_i f) (EvP.to static_i (EvP.to (a := ((namedF f, ()), ((f.1, (f.2, ())), ()))) ?_ (EvP.some rfl)))))
  refine EvP.of (fun N => slices_IndexFuncimpl_Field_impl_Field_2.eq N _ _ _) (EvP.andK (named_l f statT [] statT rfl (by rw [stat_len]; omega)) fun z hz => ?_)
  have hr := (namedF_ok f).1
  by_cases h : namedF f < 0
  · rw [hz.1 h]
    exact EvP.inr (EvP.some (by rw [show namedF f = -1 by omega]))
  · rw [hz.2 (by show 0 ≤ namedF f; omega)]
    exact EvP.inl (EvP.some rfl)
def pickI (a b : Int) : Int := if a < 0 then b else a
theorem at_l (f : Fd) : ∀ (r l L : List Fd) (a b : Int), L = l ++ r → L.length ≤ 1000 → -1 ≤ a → -1 ≤ b →
    EvP (fun N => spec_l15At.l0 N L (L.length : Int) a b (l.length : Int) f.1 f.2) (· = ((pickI a (idx (eqF f) l.length r), (pickI b (idx (nmF f) l.length r), ())), ((f.1, (f.2, ())), ()))) := by
  intro r
  induction r with
  | nil =>
    intro l L a b e hL ha hb
    rw [List.append_nil] at e
    subst e
    refine EvP.step (fun N => spec_l15At.l0.eq N _ _ _ _ _ _ _) (EvP.neg (by omega) (EvP.some ?_))
    unfold idx pickI
    have e1 : (if a < 0 then -1 else a) = a := by split <;> omega
    have e2 : (if b < 0 then -1 else b) = b := by split <;> omega
    rw [e1, e2]
  | cons x r ih =>
    intro l L a b e hL ha hb
    have hlen : L.length = l.length + (r.length + 1) := by rw [e, List.length_append, List.length_cons]
    refine EvP.step (fun N => spec_l15At.l0.eq N _ _ _ _ _ _ _) (EvP.pos (by omega) ?_)
    have hx : rdS FSh L (Int.toNat (l.length : Int)) = x := by rw [e]; exact rdF l x r
    have hw : IntKind.i64.wrap ((l.length : Int) + 1) = (((l ++ [x]).length : Nat) : Int) := by rw [i64w (by omega) (by omega), List.length_append]; rfl
    have hw2 : (((l ++ [x]).length : Nat) : Int) = (l.length : Int) + 1 := by rw [List.length_append]; rfl
    simp only [hx, hw]
    refine EvP.to (a := (((), ((if a < 0 ∧ eqF f x = true then (l.length : Int) else a), ((if b < 0 ∧ nmF f x = true then (l.length : Int) else b), ()))), ((f.1, (f.2, ())), ()))) (EvP.chk2 (by omega) (by omega) ?_) ?_
    · refine EvP.to (a := (((), ((if a < 0 ∧ eqF f x = true then (l.length : Int) else a), ((), ()))), ((f.1, (f.2, ())), ((x.1, (x.2, ())), ())))) ?_ ?_
      · refine EvP.to (a := (((), ((), (decide (a < 0 ∧ eqF f x = true), ()))), ((f.1, (f.2, ())), ((x.1, (x.2, ())), ())))) (EvP.ite (fun h => EvP.some ?_) (fun h => EvP.some ?_)) (EvP.ite (fun h => EvP.some ?_) (fun h => EvP.some ?_))
        · rw [eqF_sym]
          cases hq : eqF f x with
          | true => rw [decide_eq_true ⟨h, rfl⟩]
          | false => rw [decide_eq_false (fun k => by cases k.2)]
        · rw [decide_eq_false (fun k => h k.1)]
        · rw [if_pos h]
        · rw [if_neg h]
      · refine EvP.to (a := (((), (decide (b < 0 ∧ nmF f x = true), ())), ((f.1, (f.2, ())), ((x.1, (x.2, ())), ())))) (EvP.ite (fun h => EvP.some ?_) (fun h => EvP.some ?_)) (EvP.ite (fun h => EvP.some ?_) (fun h => EvP.some ?_))
        · show (((), (nmF f x, ())), _) = _
          cases hq : nmF f x with
          | true => rw [decide_eq_true ⟨h, rfl⟩]
          | false => rw [decide_eq_false (fun k => by cases k.2)]
        · rw [decide_eq_false (fun k => h k.1)]
        · rw [if_pos h]
        · rw [if_neg h]
    · refine EvP.eq (ih (l ++ [x]) L _ _ (by rw [e, List.append_assoc]; rfl) hL (by dsimp only; split <;> omega) (by dsimp only; split <;> omega)) ?_
      have key : ∀ (p : Fd → Bool) (a : Int), -1 ≤ a → pickI (if a < 0 ∧ p x = true then (l.length : Int) else a) (idx p ((l ++ [x]).length : Nat) r) = pickI a (idx p l.length (x :: r)) := fun p a ha => by
        rw [hw2]
        unfold pickI
        conv => rhs; unfold idx
        by_cases h1 : a < 0
        · by_cases h2 : p x = true
          · have c : (if a < 0 ∧ p x = true then (l.length : Int) else a) = (l.length : Int) := if_pos ⟨h1, h2⟩
            rw [c, if_neg (show ¬ (l.length : Int) < 0 by omega), if_pos h1, if_pos h2]
          · have c : (if a < 0 ∧ p x = true then (l.length : Int) else a) = a := if_neg (fun k => h2 k.2)
            rw [c, if_pos h1, if_pos h1, if_neg h2]
        · have c : (if a < 0 ∧ p x = true then (l.length : Int) else a) = a := if_neg (fun k => h1 k.1)
          rw [c, if_neg h1, if_neg h1]
      rw [key (eqF f) a ha, key (nmF f) b hb]
theorem at_s (f : Fd) : EvP (fun N => spec_l15At N f.1 f.2) (· = ((exactF f, (namedF f, ())), ())) := by
  refine EvP.of (fun N => spec_l15At.eq N _ _) (EvP.to static_s (EvP.to (at_l f statT [] statT (-1) (-1) rfl (by rw [stat_len]; omega) (by omega) (by omega)) (EvP.some ?_)))
  unfold pickI
  rw [if_pos (by decide), if_pos (by decide)]
  rfl

/-! ### bytes -/
def SmallF (f : Fd) : Prop := f.1.size ≤ 100 ∧ f.2.size ≤ 100
def valF (f : Fd) : ByteArray := preF 127 0 (f.2.size : Int) ++ f.2
def fieldF (f : Fd) : ByteArray :=
  if 0 ≤ exactF f then preF 63 192 (exactF f) else if 0 ≤ namedF f then preF 15 80 (namedF f) ++ valF f else preF 7 32 (f.1.size : Int) ++ f.1 ++ valF f
theorem fieldF_e {f : Fd} (h : 0 ≤ exactF f) : fieldF f = preF 63 192 (exactF f) := if_pos h
theorem fieldF_n {f : Fd} (h : ¬ 0 ≤ exactF f) (h2 : 0 ≤ namedF f) : fieldF f = preF 15 80 (namedF f) ++ valF f := (if_neg h).trans (if_pos h2)
theorem fieldF_d {f : Fd} (h : ¬ 0 ≤ exactF f) (h2 : ¬ 0 ≤ namedF f) : fieldF f = preF 7 32 (f.1.size : Int) ++ f.1 ++ valF f := (if_neg h).trans (if_neg h2)
theorem k7 : PreK 7 127 0 := .inl ⟨rfl, rfl, rfl⟩
theorem k6 : PreK 6 63 192 := .inr (.inl ⟨rfl, rfl, rfl⟩)
theorem k4 : PreK 4 15 80 := .inr (.inr (.inl ⟨rfl, rfl, rfl⟩))
theorem k3 : PreK 3 7 32 := .inr (.inr (.inr ⟨rfl, rfl, rfl⟩))
theorem valF_size {f : Fd} (h : SmallF f) : (valF f).size ≤ 102 := by
  unfold valF
  rw [ByteArray.size_append]
  have := preF_le 127 0 (f.2.size : Int)
  have := h.2
  omega
theorem fieldF_size {f : Fd} (h : SmallF f) : (fieldF f).size ≤ 204 ∧ 1 ≤ (fieldF f).size := by
  have hv := valF_size h
  have h1 := h.1
  have p1 := preF_le 63 192 (exactF f)
  have p2 := preF_le 15 80 (namedF f)
  have p3 := preF_le 7 32 (f.1.size : Int)
  have q1 := preF_size 63 192 (exactF f)
  have q2 := preF_size 15 80 (namedF f)
  have q3 := preF_size 7 32 (f.1.size : Int)
  have r1 : 1 ≤ (preF 63 192 (exactF f)).size := by rw [q1]; split <;> omega
  have r2 : 1 ≤ (preF 15 80 (namedF f)).size := by rw [q2]; split <;> omega
  have r3 : 1 ≤ (preF 7 32 (f.1.size : Int)).size := by rw [q3]; split <;> omega
  unfold fieldF
  split
  · omega
  · split
    · rw [ByteArray.size_append]; omega
    · rw [ByteArray.size_append, ByteArray.size_append]; omega
set_option maxRecDepth 20000 in
theorem field_i {f : Fd} (h : SmallF f) : EvP (fun N => impl_Field_bytes N f.1 f.2) (· = ((fieldF f, ()), ())) := by
  obtain ⟨s1, s2⟩ := h
  have hv : (preF 127 0 (f.2.size : Int) ++ f.2).size ≤ 102 := valF_size ⟨s1, s2⟩
  obtain ⟨x1, x2, -⟩ := exactF_ok f
  obtain ⟨y1, y2, -⟩ := namedF_ok f
  have p0 := preF_le 127 0 (f.2.size : Int)
  have p2 := preF_le 15 80 (namedF f)
  have p3 := preF_le 7 32 (f.1.size : Int)
  refine EvP.of (fun N => impl_Field_bytes.eq N _ _) (EvP.to (pre_i k7 (n := (f.2.size : Int)) (by omega) (by omega)) (EvP.chk1 (by dsimp only; omega) (EvP.to (at_i f) ?_)))
  dsimp only
  refine EvP.ite (fun h => ?_) (fun h => EvP.ite (fun h2 => ?_) (fun h2 => ?_))
  · rw [fieldF_e h]
    exact EvP.to (pre_i k6 (n := exactF f) h (by omega)) (EvP.some rfl)
  · have e := fieldF_n (f := f) h h2
    exact EvP.eq (EvP.to (pre_i k4 (n := namedF f) h2 (by omega)) (EvP.chk1 (by dsimp only; omega) (EvP.some rfl))) (by rw [e]; rfl)
  · have e := fieldF_d (f := f) h h2
    exact EvP.eq (EvP.to (pre_i k3 (n := (f.1.size : Int)) (by omega) (by omega)) (EvP.chk1 (by dsimp only; omega) (EvP.chk1 (by rw [ByteArray.size_append]; dsimp only; omega) (EvP.some rfl)))) (by rw [e]; rfl)
def catF : List Fd → ByteArray
  | [] => ⟨#[]⟩
  | f :: r => fieldF f ++ catF r
def SmallL (l : List Fd) : Prop := ∀ f ∈ l, SmallF f
theorem catF_size : ∀ {l : List Fd}, SmallL l → (catF l).size ≤ 204 * l.length := by
  intro l
  induction l with
  | nil => intro _; exact Nat.le_refl _
  | cons f r ih =>
    intro h
    have := (fieldF_size (h f (List.mem_cons_self ..))).1
    have := ih fun g hg => h g (List.mem_cons_of_mem _ hg)
    show (fieldF f ++ catF r).size ≤ _
    rw [ByteArray.size_append, List.length_cons]
    omega
def nul2 : ByteArray := ⟨#[0, 0]⟩
def fieldsF (l : List Fd) : ByteArray := nul2 ++ catF l
theorem fields_il : ∀ (r l L : List Fd) (out : ByteArray), L = l ++ r → L.length ≤ 100 → out.size ≤ 2 + 204 * l.length → SmallL r →
    EvP (fun N => impl_fieldsBytes.l0 N L (L.length : Int) out (l.length : Int)) (· = ((out ++ catF r, ()), ())) := by
  intro r
  induction r with
  | nil =>
    intro l L out e hL ho hr
    rw [List.append_nil] at e
    subst e
    exact EvP.step (fun N => impl_fieldsBytes.l0.eq N _ _ _ _) (EvP.neg (by omega) (EvP.some (by rw [show catF [] = (⟨#[]⟩ : ByteArray) from rfl, app_nil])))
  | cons x r ih =>
    intro l L out e hL ho hr
    have hlen : L.length = l.length + (r.length + 1) := by rw [e, List.length_append, List.length_cons]
    refine EvP.step (fun N => impl_fieldsBytes.l0.eq N _ _ _ _) (EvP.pos (by omega) (EvP.chk2 (by omega) (by omega) ?_))
    have hx : rdS FSh L (Int.toNat (l.length : Int)) = x := by rw [e]; exact rdF l x r
    have hw : IntKind.i64.wrap ((l.length : Int) + 1) = (((l ++ [x]).length : Nat) : Int) := by rw [i64w (by omega) (by omega), List.length_append]; rfl
    have hsx := hr x (List.mem_cons_self ..)
    have hfs := (fieldF_size hsx).1
    simp only [hx, hw]
    refine EvP.to (field_i hsx) (EvP.chk1 (by dsimp only; omega) ?_)
    refine EvP.eq (ih (l ++ [x]) L (out ++ fieldF x) (by rw [e, List.append_assoc]; rfl) hL (by rw [ByteArray.size_append, List.length_append, List.length_singleton]; omega) fun g hg => hr g (List.mem_cons_of_mem _ hg)) ?_
    rw [app_assoc]
    rfl
theorem fields_i (l : List Fd) (hl : l.length ≤ 100) (h : SmallL l) : EvP (fun N => impl_fieldsBytes N l) (· = ((fieldsF l, ()), ())) :=
  EvP.of (fun N => impl_fieldsBytes.eq N _) (EvP.to (fields_il l [] l nul2 rfl hl (by decide) h) (EvP.some rfl))
set_option maxRecDepth 20000 in
theorem fields_sl : ∀ (r l L : List Fd) (out : ByteArray), L = l ++ r → L.length ≤ 100 → out.size ≤ 2 + 204 * l.length → SmallL r →
    EvP (fun N => spec_l15Bytes.l0 N L (L.length : Int) out (l.length : Int)) (· = ((out ++ catF r, ()), ())) := by
  intro r
  induction r with
  | nil =>
    intro l L out e hL ho hr
    rw [List.append_nil] at e
    subst e
    exact EvP.step (fun N => spec_l15Bytes.l0.eq N _ _ _ _) (EvP.neg (by omega) (EvP.some (by rw [show catF [] = (⟨#[]⟩ : ByteArray) from rfl, app_nil])))
  | cons f r ih =>
    intro l L out e hL ho hr
    have hlen : L.length = l.length + (r.length + 1) := by rw [e, List.length_append, List.length_cons]
    refine EvP.step (fun N => spec_l15Bytes.l0.eq N _ _ _ _) (EvP.pos (by omega) ?_)
    have hx : rdS FSh L (Int.toNat (l.length : Int)) = f := by rw [e]; exact rdF l f r
    have hw : IntKind.i64.wrap ((l.length : Int) + 1) = (((l ++ [f]).length : Nat) : Int) := by rw [i64w (by omega) (by omega), List.length_append]; rfl
    have hsx := hr f (List.mem_cons_self ..)
    have hfs := (fieldF_size hsx).1
    have hv : (preF 127 0 (f.2.size : Int) ++ f.2).size ≤ 102 := valF_size hsx
    obtain ⟨s1, s2⟩ := hsx
    obtain ⟨x1, x2, -⟩ := exactF_ok f
    obtain ⟨y1, y2, -⟩ := namedF_ok f
    have p0 := preF_le 127 0 (f.2.size : Int)
    have p1 := preF_le 63 192 (exactF f)
    have p2 := preF_le 15 80 (namedF f)
    have p3 := preF_le 7 32 (f.1.size : Int)
    simp only [hx, hw]
    refine EvP.to (a := ((out ++ fieldF f, ()), ())) (EvP.chk2 (by omega) (by omega) (EvP.to (at_s f) (EvP.to (pre_s k7 (n := (f.2.size : Int)) (by omega) (by omega)) (EvP.chk1 (by dsimp only; omega) ?_)))) ?_
    · dsimp only
      refine EvP.ite (fun h => ?_) (fun h => EvP.ite (fun h2 => ?_) (fun h2 => ?_))
      · rw [fieldF_e h]
        exact EvP.to (pre_s k6 (n := exactF f) h (by omega)) (EvP.chk1 (by dsimp only; omega) (EvP.some rfl))
      · have e := fieldF_n (f := f) h h2
        exact EvP.eq (EvP.to (pre_s k4 (n := namedF f) h2 (by omega)) (EvP.chk1 (by dsimp only; omega) (EvP.chk1 (by rw [ByteArray.size_append]; dsimp only; omega) (EvP.some rfl)))) (by rw [e]; rfl)
      · have e := fieldF_d (f := f) h h2
        exact EvP.eq (EvP.to (pre_s k3 (n := (f.1.size : Int)) (by omega) (by omega)) (EvP.chk1 (by dsimp only; omega) (EvP.chk1 (by rw [ByteArray.size_append]; dsimp only; omega)
          (EvP.chk1 (by rw [ByteArray.size_append, ByteArray.size_append]; dsimp only; omega) (EvP.some rfl))))) (by rw [e]; rfl)
    · refine EvP.eq (ih (l ++ [f]) L (out ++ fieldF f) (by rw [e, List.append_assoc]; rfl) hL (by rw [ByteArray.size_append, List.length_append, List.length_singleton]; omega) fun g hg => hr g (List.mem_cons_of_mem _ hg)) ?_
      rw [app_assoc]
      rfl
theorem fields_s (l : List Fd) (hl : l.length ≤ 100) (h : SmallL l) : EvP (fun N => spec_l15Bytes N l) (· = ((fieldsF l, ()), ())) :=
  EvP.of (fun N => spec_l15Bytes.eq N _) (EvP.to (fields_sl l [] l nul2 rfl hl (by decide) h) (EvP.some rfl))
end Go.Proofs.YthkjjombaoffcaaDoor.CFnFields
