/- Good ranges as sets of numbers: one set, one row; a range put in. -/
import Derived.Test.YtbfkfhadcmpndaaQRngAFnRanges
set_option linter.unusedVariables false
set_option linter.unusedSectionVars false
set_option linter.unusedSimpArgs false
namespace Go.Proofs.Ytbfkfhadcmpndaa.CFnRanges
open Go Go.Proofs Go.Proofs.YtbfkfhadcmpndaaPM Go.Proofs.Ytbfkfhadcmpndaa.Q

theorem has_cons (x : Int × Int) (l : List (Int × Int)) (n : Int) : hasB (x :: l) n = (decide (x.1 ≤ n ∧ n ≤ x.2) || hasB l n) := rfl
theorem has_app (l m : List (Int × Int)) (n : Int) : hasB (l ++ m) n = (hasB l n || hasB m n) := by unfold hasB; exact List.any_append
theorem rng_cons {p : Int} {x : Int × Int} {r : List (Int × Int)} (h : rngB p (x :: r) = true) : RngP p x ∧ rngB x.1 r = true := by
  unfold rngB at h
  rw [Bool.and_eq_true, decide_eq_true_eq] at h
  exact h
theorem rng_mk {p : Int} {x : Int × Int} {r : List (Int × Int)} (h : RngP p x) (k : rngB x.1 r = true) : rngB p (x :: r) = true := by
  unfold rngB
  rw [k, decide_eq_true h]
  rfl
theorem rng_mono {p q : Int} {l : List (Int × Int)} (h : rngB p l = true) (k : p ≤ q) : rngB q l = true := by
  cases l with
  | nil => rfl
  | cons x r =>
    obtain ⟨⟨a, b, c, d⟩, h2⟩ := rng_cons h
    exact rng_mk ⟨a, b, c, by omega⟩ h2
theorem rng_take : ∀ (l : List (Int × Int)) (p : Int) (n : Nat), rngB p l = true → rngB p (l.take n) = true := by
  intro l
  induction l with
  | nil => intro p n h; rw [List.take_nil]; rfl
  | cons x r ih =>
    intro p n h
    cases n with
    | zero => rfl
    | succ n =>
      obtain ⟨a, b⟩ := rng_cons h
      exact rng_mk a (ih _ n b)
theorem rng_lt {p n : Int} : ∀ {l : List (Int × Int)}, rngB p l = true → hasB l n = true → n + 2 ≤ p ∧ 0 ≤ n := by
  intro l
  induction l generalizing p with
  | nil => intro _ h; cases h
  | cons x r ih =>
    intro h k
    obtain ⟨⟨a, b, c, d⟩, h2⟩ := rng_cons h
    rw [has_cons, Bool.or_eq_true, decide_eq_true_eq] at k
    rcases k with k | k
    · omega
    · have := ih h2 k
      omega
theorem rng_one : ∀ (l m : List (Int × Int)) (p q : Int), rngB p l = true → rngB q m = true → (∀ n, hasB l n = hasB m n) → l = m := by
  intro l
  induction l with
  | nil =>
    intro m p q _ h e
    cases m with
    | nil => rfl
    | cons y m =>
      obtain ⟨⟨a, b, c, d⟩, h2⟩ := rng_cons h
      have := e y.2
      rw [has_cons, decide_eq_true (show y.1 ≤ y.2 ∧ y.2 ≤ y.2 from ⟨b, Int.le_refl _⟩)] at this
      cases this
  | cons x l ih =>
    intro m p q h k e
    obtain ⟨⟨a, b, c, d⟩, h2⟩ := rng_cons h
    cases m with
    | nil =>
      have := e x.2
      rw [has_cons, decide_eq_true (show x.1 ≤ x.2 ∧ x.2 ≤ x.2 from ⟨b, Int.le_refl _⟩)] at this
      cases this
    | cons y m =>
      obtain ⟨⟨a', b', c', d'⟩, k2⟩ := rng_cons k
      have up : ∀ {x y : Int × Int} {l m : List (Int × Int)}, x.1 ≤ x.2 → rngB y.1 m = true → y.1 ≤ y.2 → (∀ n, hasB (x :: l) n = hasB (y :: m) n) → x.2 ≤ y.2 := fun {x y l m} hx hm hy e => by
        have := e x.2
        rw [has_cons, has_cons, decide_eq_true (show x.1 ≤ x.2 ∧ x.2 ≤ x.2 from ⟨hx, Int.le_refl _⟩), Bool.true_or] at this
        have := this.symm
        rw [Bool.or_eq_true, decide_eq_true_eq] at this
        rcases this with h | h
        · exact h.2
        · have := rng_lt hm h; omega
      have e2 : x.2 = y.2 := Int.le_antisymm (up b k2 b' e) (up b' h2 b fun n => (e n).symm)
      have low : ∀ {x y : Int × Int} {l m : List (Int × Int)}, x.2 = y.2 → x.1 ≤ x.2 → rngB y.1 m = true → y.1 ≤ y.2 → (∀ n, hasB (x :: l) n = hasB (y :: m) n) → y.1 ≤ x.1 := fun {x y l m} h2 hx hm hy e => by
        by_cases h : y.1 ≤ x.1
        · exact h
        · exfalso
          have := e (y.1 - 1)
          rw [has_cons, has_cons, decide_eq_true (show x.1 ≤ y.1 - 1 ∧ y.1 - 1 ≤ x.2 by omega), Bool.true_or, decide_eq_false (show ¬(y.1 ≤ y.1 - 1 ∧ y.1 - 1 ≤ y.2) by omega), Bool.false_or] at this
          have := rng_lt hm this.symm
          omega
      have e1 : x.1 = y.1 := Int.le_antisymm (low e2.symm b' h2 b fun n => (e n).symm) (low e2 b k2 b' e)
      have hxy : x = y := Prod.ext e1 e2
      subst hxy
      refine congrArg (x :: ·) (ih m x.1 x.1 h2 k2 fun n => ?_)
      have hn := e n
      rw [has_cons, has_cons] at hn
      by_cases hh : x.1 ≤ n ∧ n ≤ x.2
      · have f1 : ∀ {l : List (Int × Int)}, rngB x.1 l = true → hasB l n = false := fun {l} hl => by
          cases hb : hasB l n with
          | false => rfl
          | true => have := rng_lt hl hb; omega
        rw [f1 h2, f1 k2]
      · rw [decide_eq_false hh, Bool.false_or, Bool.false_or] at hn
        exact hn

/-! ### a range put in -/
def hullF (x r : Int × Int) : Int × Int := (if r.1 < x.1 then r.1 else x.1, if x.2 < r.2 then r.2 else x.2)
def putF : List (Int × Int) → Int × Int → List (Int × Int)
  | [], x => [x]
  | r :: l, x => if x.2 + 1 < r.1 then r :: putF l x else if r.2 < x.1 - 1 then x :: r :: l else putF l (hullF x r)
def OkP (x : Int × Int) : Prop := 0 ≤ x.1 ∧ x.1 ≤ x.2 ∧ VarN x.2
theorem putF_ok : ∀ (l : List (Int × Int)) (p : Int) (x : Int × Int), rngB p l = true → OkP x → x.2 + 2 ≤ p → rngB p (putF l x) = true ∧ (∀ n, hasB (putF l x) n = (hasB l n || decide (x.1 ≤ n ∧ n ≤ x.2))) ∧ (putF l x).length ≤ l.length + 1 := by
  intro l
  induction l with
  | nil =>
    intro p x _ h k
    exact ⟨rng_mk ⟨h.1, h.2.1, h.2.2, k⟩ rfl, fun n => by unfold putF; rw [has_cons, Bool.or_comm], Nat.le_refl _⟩
  | cons r l ih =>
    intro p x hl h k
    obtain ⟨⟨a, b, c, d⟩, h2⟩ := rng_cons hl
    obtain ⟨o1, o2, o3, o4⟩ := h
    unfold putF
    by_cases c1 : x.2 + 1 < r.1
    · rw [if_pos c1]
      obtain ⟨i1, i2, i3⟩ := ih r.1 x h2 ⟨o1, o2, o3, o4⟩ (by omega)
      exact ⟨rng_mk ⟨a, b, c, d⟩ i1, fun n => by rw [has_cons, has_cons, i2, Bool.or_assoc], by simp only [List.length_cons]; omega⟩
    · rw [if_neg c1]
      by_cases c2 : r.2 < x.1 - 1
      · rw [if_pos c2]
        exact ⟨rng_mk ⟨o1, o2, ⟨o3, o4⟩, k⟩ (rng_mk ⟨a, b, c, by omega⟩ h2), fun n => by rw [has_cons, Bool.or_comm], by simp only [List.length_cons]; omega⟩
      · rw [if_neg c2]
        have hh : OkP (hullF x r) ∧ (hullF x r).2 + 2 ≤ p ∧ ∀ n, ((hullF x r).1 ≤ n ∧ n ≤ (hullF x r).2) ↔ (r.1 ≤ n ∧ n ≤ r.2) ∨ (x.1 ≤ n ∧ n ≤ x.2) := by
          obtain ⟨c3, c4⟩ := c
          unfold hullF OkP VarN
          dsimp only
          refine ⟨?_, ?_, fun n => ?_⟩ <;> (split <;> first | omega | (split <;> omega))
        obtain ⟨i1, i2, i3⟩ := ih p (hullF x r) (rng_mono h2 (by omega)) hh.1 hh.2.1
        refine ⟨i1, fun n => ?_, by simp only [List.length_cons]; omega⟩
        rw [i2, has_cons, decide_eq_decide.2 (hh.2.2 n), Bool.decide_or]
        cases decide (r.1 ≤ n ∧ n ≤ r.2) <;> cases hasB l n <;> simp
theorem has_mono {l : List (Int × Int)} {x : Int × Int} {n : Int} (h : x ∈ l) (k : x.1 ≤ n ∧ n ≤ x.2) : hasB l n = true := by
  unfold hasB
  rw [List.any_eq_true]
  exact ⟨x, h, decide_eq_true k⟩

/-! ### ranges that fall, joined one by one -/
/-- The last range's lower end. -/
def lowL (l : List (Int × Int)) (v : Int) : List (Int × Int) := match l.getLast? with
  | some x => l.dropLast ++ [(if v < x.1 then v else x.1, x.2)]
  | none => l
def stepU (l : List (Int × Int)) (r : Int × Int) : List (Int × Int) := match l.getLast? with
  | some x => if x.1 ≤ r.2 + 1 then l.dropLast ++ [(if r.1 < x.1 then r.1 else x.1, x.2)] else l ++ [r]
  | none => l ++ [r]
theorem rng_app : ∀ (l : List (Int × Int)) (p : Int) (x : Int × Int), rngB p (l ++ [x]) = true ↔ rngB p l = true ∧ RngP (match l.getLast? with | some y => y.1 | none => p) x := by
  intro l
  induction l with
  | nil =>
    intro p x
    exact ⟨fun h => ⟨rfl, (rng_cons h).1⟩, fun h => rng_mk h.2 rfl⟩
  | cons y l ih =>
    intro p x
    have e : (match (y :: l).getLast? with | some z => z.1 | none => p) = (match l.getLast? with | some z => z.1 | none => y.1) := by
      cases l with
      | nil => rfl
      | cons z l =>
        rw [List.getLast?_cons_cons]
        cases hz : (z :: l).getLast? with
        | none => simp at hz
        | some w => rfl
    rw [e]
    constructor
    · intro h
      obtain ⟨a, b⟩ := rng_cons h
      obtain ⟨c, d⟩ := (ih _ _).1 b
      exact ⟨rng_mk a c, d⟩
    · rintro ⟨h, k⟩
      obtain ⟨a, b⟩ := rng_cons h
      exact rng_mk a ((ih _ _).2 ⟨b, k⟩)
/-- What is joined so far, of ranges that fall. -/
def FoldP (l out : List (Int × Int)) : Prop := rngB topP out = true ∧ (∀ n, hasB out n = hasB l n) ∧ (out = [] → l = []) ∧ (∀ x, out.getLast? = some x → ∀ v, (∀ y ∈ l, v ≤ y.2) → v ≤ x.2) ∧ out.length ≤ l.length
theorem stepU_ok {l out : List (Int × Int)} {r : Int × Int} (h : FoldP l out) (hr : OkP r) (hf : ∀ y ∈ l, r.2 ≤ y.2) : FoldP (l ++ [r]) (stepU out r) := by
  obtain ⟨h1, h2, h3, h4, h5⟩ := h
  obtain ⟨o1, o2, o3, o4⟩ := hr
  unfold stepU
  cases hx : out.getLast? with
  | none =>
    have ho : out = [] := by simpa using hx
    have hl := h3 ho
    subst ho hl
    dsimp only
    refine ⟨rng_mk ⟨o1, o2, ⟨o3, o4⟩, by show r.2 + 2 ≤ (4611686018427387905 : Int); omega⟩ rfl, fun n => rfl, fun h => by simp at h, fun x hx v hv => ?_, Nat.le_refl _⟩
    simp at hx
    subst hx
    exact hv r (by simp)
  | some x =>
    obtain ⟨o, rfl⟩ := List.getLast?_eq_some_iff.1 hx
    obtain ⟨g1, g2⟩ := (rng_app _ _ _).1 h1
    have hxr := h4 x hx r.2 hf
    dsimp only
    obtain ⟨q1, q2, ⟨q3, q5⟩, q4⟩ := g2
    by_cases c : x.1 ≤ r.2 + 1
    · rw [if_pos c, List.dropLast_concat]
      refine ⟨(rng_app _ _ _).2 ⟨g1, ?_⟩, fun n => ?_, fun h => by simp at h, fun y hy v hv => ?_, by simp at h5 ⊢; omega⟩
      · refine ⟨?_, ?_, ⟨q3, q5⟩, q4⟩ <;> (dsimp only; split <;> omega)
      · have := h2 n
        rw [has_app] at this ⊢
        rw [has_app, ← this]
        have e : decide ((if r.1 < x.1 then r.1 else x.1) ≤ n ∧ n ≤ x.2) = (decide (x.1 ≤ n ∧ n ≤ x.2) || decide (r.1 ≤ n ∧ n ≤ r.2)) := by
          rw [← Bool.decide_or]
          apply decide_eq_decide.2
          split <;> omega
        show (hasB o n || (decide ((if r.1 < x.1 then r.1 else x.1) ≤ n ∧ n ≤ x.2) || false)) = (hasB o n || (decide (x.1 ≤ n ∧ n ≤ x.2) || false) || (decide (r.1 ≤ n ∧ n ≤ r.2) || false))
        rw [e]
        simp only [Bool.or_false, Bool.or_assoc]
      · simp at hy
        subst hy
        exact h4 x hx v fun y hy => hv y (by simp [hy])
    · rw [if_neg c]
      refine ⟨(rng_app _ _ _).2 ⟨h1, ?_⟩, fun n => ?_, fun h => by simp at h, fun y hy v hv => ?_, by simp at h5 ⊢; omega⟩
      · rw [hx]
        exact ⟨o1, o2, ⟨o3, o4⟩, by dsimp only; omega⟩
      · rw [has_app, h2, has_app]
      · simp at hy
        subst hy
        exact hv r (by simp)
def FallP : List (Int × Int) → Prop
  | [] => True
  | x :: l => (∀ y ∈ l, y.2 ≤ x.2) ∧ FallP l
theorem foldU_ok : ∀ (r l out : List (Int × Int)), FoldP l out → (∀ x ∈ r, OkP x) → FallP r → (∀ x ∈ l, ∀ y ∈ r, y.2 ≤ x.2) → FoldP (l ++ r) (r.foldl stepU out) := by
  intro r
  induction r with
  | nil => intro l out h _ _ _; rw [List.append_nil]; exact h
  | cons x r ih =>
    intro l out h hr hf hl
    have := ih (l ++ [x]) (stepU out x) (stepU_ok h (hr x (List.mem_cons_self ..)) fun y hy => hl y hy x (List.mem_cons_self ..)) (fun y hy => hr y (List.mem_cons_of_mem _ hy)) hf.2 (fun y hy z hz => by
      rcases List.mem_append.1 hy with hy | hy
      · exact hl y hy z (List.mem_cons_of_mem _ hz)
      · obtain rfl := List.mem_singleton.1 hy
        exact hf.1 z hz)
    rw [List.append_assoc] at this
    exact this
end Go.Proofs.Ytbfkfhadcmpndaa.CFnRanges
