/- Drawn ranges: they come out, and are not long. -/
import Derived.Test.YtbfkfhadcmpndaaQRngAFnRanges
import Derived.Test.YtbfkfhadcmpndaaQDrawFnRanges
set_option linter.unusedVariables false
set_option linter.unusedSectionVars false
set_option linter.unusedSimpArgs false
namespace Go.Proofs.Ytbfkfhadcmpndaa.CFnRanges
open Go Go.Proofs Go.Proofs.YtbfkfhadcmpndaaPM Go.Proofs.Ytbfkfhadcmpndaa.Q Go.Proofs.Ytbfkfhadcmpndaa.GFnRanges
theorem put_l (L : List (Int × Int)) (hL : L.length ≤ 1000) : ∀ (n i : Nat) (e : Bool) (x y : Int) (p : List (Int × Int)), i + n = L.length → p.length ≤ i + (match e with | true => 1 | false => 0) →
    EvP (fun N => spec_l12Put.l0 N L (L.length : Int) e (i : Int) x y p) (fun z => z.2.2.1.length ≤ L.length + (match z.1.2.2.1 with | true => 1 | false => 0)) := by
  intro n
  induction n with
  | zero =>
    intro i e x y p h1 h2
    exact EvP.step (fun N => spec_l12Put.l0.eq N _ _ _ _ _ _ _) (EvP.neg (by omega) (EvP.some (by dsimp only; omega)))
  | succ n ih =>
    intro i e x y p h1 h2
    refine EvP.step (fun N => spec_l12Put.l0.eq N _ _ _ _ _ _ _) (EvP.pos (by omega) ?_)
    have hw : IntKind.i64.wrap ((i : Int) + 1) = ((i + 1 : Nat) : Int) := by rw [i64w (by omega) (by omega)]; omega
    simp only [hw]
    have he : (match e with | true => 1 | false => 0) ≤ 1 := by cases e <;> decide
    refine EvP.andK (Q := fun z => z.2.2.1.length ≤ i + 1 + (match z.1.2.2.1 with | true => 1 | false => 0)) ?_ (fun z hz => ?_)
    · refine EvP.chk2 (by omega) (by omega) (EvP.ite (fun _ => EvP.chk1 (by unfold most; omega) (EvP.some (by dsimp only; rw [List.length_append, List.length_singleton]; omega))) (fun _ => EvP.ite (fun _ => ?_) (fun _ => ?_)))
      · refine EvP.andK (Q := fun z => z.2.2.1.length ≤ i + (match z.1.2.2.1 with | true => 1 | false => 0)) ?_ (fun z hz => ?_)
        · cases e with
          | true => exact EvP.no rfl (EvP.some h2)
          | false => exact EvP.yes rfl (EvP.chk1 (by unfold most; omega) (EvP.some (by dsimp only at h2 ⊢; rw [List.length_append, List.length_singleton]; omega)))
        · have : (match z.1.2.2.1 with | true => 1 | false => 0) ≤ 1 := by cases z.1.2.2.1 <;> decide
          refine EvP.chk1 (by unfold most; omega) (EvP.some ?_)
          dsimp only
          rw [List.length_append, List.length_singleton]
          omega
      · refine EvP.andK (Q := fun z => z.2.2.1 = p) (EvP.ite (fun _ => EvP.some rfl) (fun _ => EvP.some rfl)) (fun z hz => ?_)
        refine EvP.ite (fun _ => EvP.some ?_) (fun _ => EvP.some ?_) <;> (dsimp only; rw [hz]; omega)
    · exact ih (i + 1) _ _ _ _ (by omega) hz
theorem put_ok (L : List (Int × Int)) (hL : L.length ≤ 1000) (x y : Int) : EvP (fun N => spec_l12Put N L x y) (fun z => z.2.1.length ≤ L.length + 1) := by
  refine EvP.of (fun N => spec_l12Put.eq N _ _ _) (EvP.andK (put_l L hL L.length 0 false x y [] (by omega) (by simp)) fun z hz => ?_)
  cases hb : z.1.2.2.1 with
  | true => exact EvP.no rfl (EvP.some (by dsimp only; rw [hb] at hz; exact hz))
  | false => exact EvP.yes rfl (EvP.chk1 (by rw [hb] at hz; unfold most; dsimp only at hz; omega) (EvP.some (by dsimp only; rw [hb] at hz; rw [List.length_append, List.length_singleton]; dsimp only at hz; omega)))
theorem number_ok (L : List (Int × Int)) (x : Int) : EvP (fun N => spec_PutNumber N L x) (fun z => z.2.1.length ≤ 20) := by
  refine EvP.of (fun N => spec_PutNumber.eq N _ _) ?_
  refine EvP.andK (Q := fun z => z.1.1 = false → L.length ≤ 20) ?_ (fun z hz => ?_)
  · refine EvP.to (goodL_s L) ?_
    cases hb : goodLB L with
    | false => exact EvP.yes rfl (EvP.some (fun h => by cases h))
    | true =>
      refine EvP.no rfl (EvP.to (known_s x) (EvP.some fun _ => ?_))
      unfold goodLB at hb
      rw [Bool.and_eq_true, decide_eq_true_eq] at hb
      have := hb.1
      omega
  · cases hb : z.1.1 with
    | true => exact EvP.yes rfl (EvP.some (by simp))
    | false =>
      refine EvP.no rfl (EvP.andK (put_ok L (by have := hz hb; omega) x x) fun w hw => EvP.ite (fun h => EvP.chk1 (by omega) (EvP.some ?_)) (fun h => EvP.some ?_))
      · show (w.2.1.take 20).length ≤ 20
        rw [List.length_take]
        omega
      · show w.2.1.length ≤ 20
        omega
section
variable {l : List Int} (hl : Bytes l)
include hl
theorem numbers_l0 : ∀ (k : Nat) (n : Int), n = (k : Int) → k ≤ 100 → ∀ (a s : Int) (p : List (Int × Int)), 0 ≤ a → a + 2 * n ≤ 4611686018427000000 → p.length ≤ 20 →
    EvP (fun N => spec_l1Cur_numbers.l0 N n l a s p) (fun z => z.2.1.1 = l ∧ 0 ≤ z.2.1.2.1 ∧ z.2.1.2.1 ≤ a + 2 * n ∧ z.2.2.1.length ≤ 20) := by
  intro k
  induction k with
  | zero =>
    intro n hn hk a s p h0 h1 h2
    exact EvP.step (fun N => spec_l1Cur_numbers.l0.eq N _ _ _ _ _) (EvP.neg (by omega) (EvP.some ⟨rfl, h0, (by dsimp only; omega), h2⟩))
  | succ k ih =>
    intro n hn hk a s p h0 h1 h2
    refine EvP.step (fun N => spec_l1Cur_numbers.l0.eq N _ _ _ _ _) (EvP.pos (by omega) (EvP.andK (pick_ok hl 30 a s h0 (by omega)) ?_))
    rintro ⟨⟨x, ⟨⟩⟩, ⟨l', a', s', ⟨⟩⟩, ⟨⟩⟩ ⟨_, q1, q2, q3⟩
    dsimp only at q1 q2 q3
    subst q1
    refine EvP.andK (number_ok p x) fun z hz => ?_
    rw [i64w (n := n - 1) (by omega) (by omega)]
    exact (ih (n - 1) (by omega) (by omega) a' s' _ (by omega) (by omega) hz).mono fun w hw => ⟨hw.1, hw.2.1, by have := hw.2.2.1; omega, hw.2.2.2⟩
theorem numbers_l1 : ∀ (k : Nat) (n : Int), n + (k : Int) = 21 → 0 ≤ n → ∀ (a s : Int) (p : List (Int × Int)), p.length ≤ 20 →
    EvP (fun N => spec_l1Cur_numbers.l1 N n l a s p) (fun z => z.2.1 = (l, (a, (s, ()))) ∧ z.2.2.2.1.length ≤ 20) := by
  intro k
  induction k with
  | zero =>
    intro n hn hk a s p h2
    exact EvP.step (fun N => spec_l1Cur_numbers.l1.eq N _ _ _ _ _) (EvP.neg (by omega) (EvP.some ⟨rfl, h2⟩))
  | succ k ih =>
    intro n hn hk a s p h2
    refine EvP.step (fun N => spec_l1Cur_numbers.l1.eq N _ _ _ _ _) (EvP.pos (by omega) (EvP.andK (number_ok p _) fun z hz => ?_))
    rw [i64w (n := n + 1) (by omega) (by omega)]
    exact ih (n + 1) (by omega) (by omega) a s _ hz
theorem numbers_ok (a s : Int) (h0 : 0 ≤ a) (h1 : a ≤ 4611686018426000000) :
    EvP (fun N => spec_l1Cur_numbers N l a s) (fun z => z.2.1.1 = l ∧ 0 ≤ z.2.1.2.1 ∧ z.2.1.2.1 ≤ a + 30 ∧ z.2.2.1.length ≤ 21) := by
  refine EvP.of (fun N => spec_l1Cur_numbers.eq N _ _ _) (EvP.andK (pick_ok hl 8 a s h0 (by omega)) ?_)
  rintro ⟨⟨x, ⟨⟩⟩, ⟨l', a', s', ⟨⟩⟩, ⟨⟩⟩ ⟨⟨x1, _, x2, _⟩, q1, q2, q3⟩
  dsimp only at q1 q2 q3 x1 x2
  subst q1
  have x3 := x2 (by omega)
  refine EvP.andK (numbers_l0 hl x.toNat x (by omega) (by omega) a' s' [] (by omega) (by omega) (by simp)) ?_
  rintro ⟨u, ⟨l'', a'', s'', ⟨⟩⟩, p, ⟨⟩⟩ ⟨w1, w2, w3, w4⟩
  dsimp only at w1 w2 w3 w4
  subst w1
  refine EvP.andK (pick_ok hl 30 a'' s'' (by omega) (by omega)) ?_
  rintro ⟨⟨y, ⟨⟩⟩, ⟨l4, a4, s4, ⟨⟩⟩, ⟨⟩⟩ ⟨_, q4, q5, q6⟩
  dsimp only at q4 q5 q6
  subst q4
  refine EvP.ite (fun _ => ?_) (fun _ => EvP.ite (fun _ => ?_) (fun _ => EvP.some ⟨rfl, (by dsimp only; omega), (by dsimp only; omega), (by dsimp only; omega)⟩))
  · refine EvP.andK (pick_ok hl 9 a4 s4 (by omega) (by omega)) ?_
    rintro ⟨⟨y1, ⟨⟩⟩, ⟨l5, a5, s5, ⟨⟩⟩, ⟨⟩⟩ ⟨_, r1, r2, r3⟩
    dsimp only at r1 r2 r3
    subst r1
    refine EvP.andK (pick_ok hl 9 a5 s5 (by omega) (by omega)) ?_
    rintro ⟨⟨y2, ⟨⟩⟩, ⟨l6, a6, s6, ⟨⟩⟩, ⟨⟩⟩ ⟨_, r4, r5, r6⟩
    dsimp only at r4 r5 r6
    subst r4
    refine EvP.chk1 (by unfold most; dsimp only; omega) (EvP.some ⟨rfl, (by dsimp only; omega), (by dsimp only; omega), ?_⟩)
    dsimp only
    rw [List.length_append, List.length_singleton]
    omega
  · refine EvP.andK (numbers_l1 hl 21 0 (by omega) (by omega) a4 s4 p w4) ?_
    rintro ⟨u, c, v, p2, ⟨⟩⟩ ⟨v1, v2⟩
    dsimp only at v1 v2
    subst v1
    exact EvP.some ⟨rfl, (by dsimp only; omega), (by dsimp only; omega), (by dsimp only; omega)⟩
end
end Go.Proofs.Ytbfkfhadcmpndaa.CFnRanges
