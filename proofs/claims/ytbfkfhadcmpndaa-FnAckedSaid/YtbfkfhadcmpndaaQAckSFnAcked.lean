/- Round trips and what was sent: both packages find the same ones good. -/
import Derived.Test.YtbfkfhadcmpndaaQAckMFnAcked
import Derived.Test.YtbfkfhadcmpndaaQFrameRFnAcked
import Derived.Test.YtbfkfhadcmpndaaQCuFnAcked
set_option linter.unusedVariables false
set_option linter.unusedSimpArgs false
namespace Go.Proofs.Ytbfkfhadcmpndaa.CFnAcked
open Go Go.Proofs Go.Proofs.YtbfkfhadcmpndaaPM Go.Proofs.Ytbfkfhadcmpndaa.Q Go.Proofs.Ytbfkfhadcmpndaa.GFnAcked

theorem isTick_i (n : Int) : EvP (fun N => impl_isTick N n) (· = ((decide (TickN n), ()), ())) := EvP.of (fun N => impl_isTick.eq N _) (EvP.to (in_i _ _ _) (EvP.some rfl))
theorem tick_s (n : Int) : EvP (fun N => spec_l12Tick N n) (· = ((decide (TickN n), ()), ())) := EvP.of (fun N => spec_l12Tick.eq N _) (EvP.to (in_s _ _ _) (EvP.some rfl))
theorem fin_b {p : Prop} [Decidable p] {b : Bool} (h : b = decide p) : (((b, ()), ()) : (Bool × Unit) × Unit) = ((decide p, ()), ()) := by rw [h]
theorem no_b {p : Prop} [Decidable p] (h : ¬p) : (((false, ()), ()) : (Bool × Unit) × Unit) = ((decide p, ()), ()) := by rw [decide_eq_false h]
theorem goodRtt_i (k : Bool) (a b c d : Int) : EvP (fun N => impl_goodRtt N k a b c d) (· = ((goodRB (k, (a, (b, (c, (d, ()))))), ()), ())) := by
  refine EvP.of (fun N => impl_goodRtt.eq N _ _ _ _ _) ?_
  cases k with
  | false =>
    refine EvP.yes rfl (EvP.some ?_)
    show _ = ((decide (a = 0 ∧ b = 0 ∧ c = 0 ∧ d = 0), ()), ())
    exact fin_b (by simp only [Bool.decide_and]; rfl)
  | true =>
    refine EvP.no rfl ?_
    show EvP _ (· = ((decide (0 ≤ b ∧ b ≤ a ∧ TickN a ∧ TickN c ∧ TickN d), ()), ()))
    refine EvP.ite (fun h1 => EvP.ite (fun h2 => EvP.to (isTick_i a) (EvP.ite (fun h3 => EvP.to (isTick_i c) (EvP.ite (fun h4 => EvP.to (isTick_i d) (EvP.some ?_)) (fun h4 => EvP.some ?_))) (fun h3 => EvP.some ?_))) (fun h2 => EvP.some ?_)) (fun h1 => EvP.some ?_)
    · exact fin_b (dec_eq (fun h => ⟨h1, h2, h3, h4, h⟩) (fun h => h.2.2.2.2))
    · exact no_b fun h => h4 h.2.2.2.1
    · exact no_b fun h => h3 h.2.2.1
    · exact no_b fun h => h2 h.2.1
    · exact no_b fun h => h1 h.1
theorem goodRtt_s (k : Bool) (a b c d : Int) : EvP (fun N => spec_l12Rtt N k a b c d) (· = ((goodRB (k, (a, (b, (c, (d, ()))))), ()), ())) := by
  refine EvP.of (fun N => spec_l12Rtt.eq N _ _ _ _ _) ?_
  cases k with
  | false =>
    refine EvP.yes rfl (EvP.some ?_)
    show _ = ((decide (a = 0 ∧ b = 0 ∧ c = 0 ∧ d = 0), ()), ())
    exact fin_b (by simp only [Bool.decide_and]; rfl)
  | true =>
    refine EvP.no rfl ?_
    show EvP _ (· = ((decide (0 ≤ b ∧ b ≤ a ∧ TickN a ∧ TickN c ∧ TickN d), ()), ()))
    refine EvP.to (tick_s b) (EvP.ite (fun h1 => EvP.to (in_s a b _) (EvP.ite (fun h2 => EvP.to (tick_s c) (EvP.ite (fun h3 => EvP.to (tick_s d) (EvP.some ?_)) (fun h3 => EvP.some ?_))) (fun h2 => EvP.some ?_))) (fun h1 => EvP.some ?_))
    · exact fin_b (dec_eq (fun h => ⟨h1.1, h2.1, ⟨Int.le_trans h1.1 h2.1, h2.2⟩, h3, h⟩) (fun h => h.2.2.2.2))
    · exact no_b fun h => h3 h.2.2.2.1
    · exact no_b fun h => h2 ⟨h.2.1, h.2.2.1.2⟩
    · exact no_b fun h => h1 ⟨h.1, Int.le_trans h.2.1 h.2.2.1.2⟩

abbrev SSh : Sh := .pair (.int .i64) (.pair (.int .i64) (.int .i64))
theorem rdA (S : Sh) (l : List S.den) (x : S.den) (r : List S.den) : rdS S (l ++ x :: r) (Int.toNat (l.length : Int)) = x := by
  unfold rdS
  rw [Int.toNat_natCast, List.getD_eq_getElem?_getD, List.getElem?_append_right (Nat.le_refl _), Nat.sub_self]
  rfl
theorem rdL {l : List Snt} (h : 0 < l.length) (r : List Snt) : (rdS SSh (l ++ r) (Int.toNat ((l.length : Int) - 1))).1 = endN (-1) l ∧ (rdS SSh (l ++ r) (Int.toNat ((l.length : Int) - 1))).2.1 = lastT 0 l := by
  obtain ⟨l', y, rfl⟩ : ∃ l' y, l = l' ++ [y] := ⟨l.dropLast, l.getLast (by intro e; rw [e] at h; cases h), (List.dropLast_concat_getLast _).symm⟩
  rw [endN_app, lastT_app, List.append_assoc, show ((l' ++ [y]).length : Int) - 1 = (l'.length : Int) by rw [List.length_append]; simp]
  have e := rdA SSh l' y r
  exact ⟨congrArg Prod.fst e, congrArg (fun (z : Snt) => z.2.1) e⟩
abbrev Sp := Int × (List Snt × (Bool × (Int × (Int × (Int × (Int × Unit))))))
abbrev XS := (Unit × (Bool × Unit)) × (Sp × ((Int × (Int × (Int × Unit))) × Unit))
def goodSB (a : Int) (L : List Snt) (r : Rt) : Bool := sentB (-1) 0 L && (decide (-1 ≤ a ∧ a ≤ 4611686018427387903) && (decide ((L.length : Int) ≤ 60) && goodRB r))
theorem sent_nil {x : Snt} (h1 : VarN x.1) (h2 : TickN x.2.1) (h3 : 0 ≤ x.2.2 ∧ x.2.2 ≤ 1500) : SentP (endN (-1) []) (lastT 0 []) x :=
  ⟨h1, h2, h3, by have := h1.1; show (-1 : Int) < _; omega, h2.1⟩
theorem space_l_i (a : Int) (k : Bool) (b c d e : Int) : ∀ (r l : List Snt) (L : List Snt), L = l ++ r → (L.length : Int) ≤ 4611686018427387903 →
    EvP (fun N => impl_GoodSpace.l0 N L (L.length : Int) (l.length : Int) a L k b c d e) (· = if sentB (endN (-1) l) (lastT 0 l) r = true then .inr (((), ()), ((a, (L, (k, (b, (c, (d, (e, ()))))))), ())) else .inl ((false, ()), ((a, (L, (k, (b, (c, (d, (e, ()))))))), ()))) := by
  intro r
  induction r with
  | nil =>
    intro l L e1 hL
    rw [List.append_nil] at e1
    subst e1
    exact EvP.step (fun N => impl_GoodSpace.l0.eq N _ _ _ _ _ _ _ _ _ _) (EvP.neg (by omega) (EvP.some rfl))
  | cons x r ih =>
    intro l L e1 hL
    have hlen : L.length = l.length + (r.length + 1) := by rw [e1, List.length_append, List.length_cons]
    refine EvP.step (fun N => impl_GoodSpace.l0.eq N _ _ _ _ _ _ _ _ _ _) (EvP.pos (by omega) (EvP.chk2 (by omega) (by omega) ?_))
    have hx : rdS SSh L (Int.toNat (l.length : Int)) = x := by rw [e1]; exact rdA SSh l x r
    have hw : IntKind.i64.wrap ((l.length : Int) - 1) = (l.length : Int) - 1 := i64w (by omega) (by omega)
    have hw2 : IntKind.i64.wrap ((l.length : Int) + 1) = (((l ++ [x]).length : Nat) : Int) := by rw [i64w (by omega) (by omega), List.length_append]; rfl
    simp only [hx, hw, hw2]
    refine EvP.to (a := ((((), (!decide (SentP (endN (-1) l) (lastT 0 l) x), ())), ((a, (L, (k, (b, (c, (d, (e, ()))))))), ((x.1, (x.2.1, (x.2.2, ()))), ()))) : XS)) ?_ ?_
    · have no : ∀ q : Bool, q = (!decide (SentP (endN (-1) l) (lastT 0 l) x)) → ((((), (q, ())), ((a, (L, (k, (b, (c, (d, (e, ()))))))), ((x.1, (x.2.1, (x.2.2, ()))), ()))) : XS) = (((), (!decide (SentP (endN (-1) l) (lastT 0 l) x), ())), ((a, (L, (k, (b, (c, (d, (e, ()))))))), ((x.1, (x.2.1, (x.2.2, ()))), ()))) := fun q h => by rw [h]
      have bad : ¬SentP (endN (-1) l) (lastT 0 l) x → true = (!decide (SentP (endN (-1) l) (lastT 0 l) x)) := fun h => by rw [decide_eq_false h]; rfl
      refine EvP.to (a := ((decide (VarN x.1 ∧ TickN x.2.1 ∧ (0 ≤ x.2.2 ∧ x.2.2 ≤ 1500)), ()), ())) ?_ ?_
      · refine EvP.of (fun N => impl_sentOk.eq N _ _ _) (EvP.to (isVarint_i _) (EvP.ite (fun h1 => EvP.to (isTick_i _) (EvP.ite (fun h2 => EvP.to (in_i _ _ _) (EvP.some ?_)) (fun h2 => EvP.some ?_))) (fun h1 => EvP.some ?_)))
        · exact fin_b (dec_eq (fun h => ⟨h1, h2, h⟩) (fun h => h.2.2))
        · exact no_b fun h => h2 h.2.1
        · exact no_b fun h => h1 h.1
      refine EvP.nite (fun h => EvP.some (no _ (bad fun k => h ⟨k.1, k.2.1, k.2.2.1⟩))) (fun h => EvP.ite (fun h4 => ?_) (fun h4 => EvP.some ?_))
      · have hb := rdL (l := l) (by omega) (x :: r)
        rw [← e1] at hb
        simp only [hb.1, hb.2]
        refine EvP.chk2 (by omega) (by omega) (EvP.ite (fun h5 => EvP.some (no _ (bad fun k => by have h5 : x.1 ≤ endN (-1) l := h5; have := k.2.2.2.1; omega))) (fun h5 => EvP.chk2 (by omega) (by omega) (EvP.some (no _ ?_))))
        rw [← decide_not]
        exact dec_eq (fun h6 k => by have h6 : x.2.1 < lastT 0 l := h6; have := k.2.2.2.2; omega) (fun h6 => Classical.byContradiction fun k => h6 ⟨h.1, h.2.1, h.2.2, by have h5 : ¬ x.1 ≤ endN (-1) l := h5; omega, by have k : ¬ x.2.1 < lastT 0 l := k; omega⟩)
      · have hl : l = [] := List.eq_nil_of_length_eq_zero (by omega)
        subst hl
        exact no _ (by rw [decide_eq_true (sent_nil h.1 h.2.1 h.2.2)]; rfl)
    · unfold sentB
      cases hb : decide (SentP (endN (-1) l) (lastT 0 l) x) with
      | false => exact EvP.yes rfl (EvP.some rfl)
      | true =>
        refine EvP.no rfl ?_
        have hi := ih (l ++ [x]) L (by rw [e1, List.append_assoc]; rfl) hL
        rw [endN_app, lastT_app] at hi
        exact hi
theorem space_i (a : Int) (L : List Snt) (k : Bool) (b c d e : Int) (h : (L.length : Int) ≤ 4611686018427387903) : EvP (fun N => impl_GoodSpace N a L k b c d e) (· = ((goodSB a L (k, (b, (c, (d, (e, ()))))), ()), ())) := by
  refine EvP.of (fun N => impl_GoodSpace.eq N _ _ _ _ _ _ _) (EvP.to (space_l_i a k b c d e L [] L rfl h) ?_)
  show EvP _ (· = ((sentB (-1) 0 L && (_ && _), ()), ()))
  show EvP (fun n => orK (if sentB (-1) 0 L = true then _ else _) _ _) _
  cases sentB (-1) 0 L with
  | true =>
    refine EvP.inr (EvP.to (in_i _ _ _) (EvP.ite (fun h1 => EvP.ite (fun h2 => EvP.to (goodRtt_i _ _ _ _ _) (EvP.some ?_)) (fun h2 => EvP.some ?_)) (fun h1 => EvP.some ?_)))
    · dsimp only at h1 h2 ⊢
      rw [decide_eq_true h1, decide_eq_true h2]
      rfl
    · dsimp only at h1 h2 ⊢
      rw [decide_eq_true h1, decide_eq_false h2]
      rfl
    · dsimp only at h1 ⊢
      rw [decide_eq_false h1]
      rfl
  | false => exact EvP.inl (EvP.some rfl)
theorem space_l_s (a : Int) (k : Bool) (b c d e : Int) : ∀ (r l : List Snt) (L : List Snt), L = l ++ r → (L.length : Int) ≤ 4611686018427387903 →
    EvP (fun N => spec_GoodSpace.l0 N L (L.length : Int) (l.length : Int) a L k b c d e) (· = if sentB (endN (-1) l) (lastT 0 l) r = true then .inr (((), ()), ((a, (L, (k, (b, (c, (d, (e, ()))))))), ())) else .inl ((false, ()), ((a, (L, (k, (b, (c, (d, (e, ()))))))), ()))) := by
  intro r
  induction r with
  | nil =>
    intro l L e1 hL
    rw [List.append_nil] at e1
    subst e1
    exact EvP.step (fun N => spec_GoodSpace.l0.eq N _ _ _ _ _ _ _ _ _ _) (EvP.neg (by omega) (EvP.some rfl))
  | cons x r ih =>
    intro l L e1 hL
    have hlen : L.length = l.length + (r.length + 1) := by rw [e1, List.length_append, List.length_cons]
    refine EvP.step (fun N => spec_GoodSpace.l0.eq N _ _ _ _ _ _ _ _ _ _) (EvP.pos (by omega) (EvP.chk2 (by omega) (by omega) ?_))
    have hx : rdS SSh L (Int.toNat (l.length : Int)) = x := by rw [e1]; exact rdA SSh l x r
    have hw : IntKind.i64.wrap ((l.length : Int) - 1) = (l.length : Int) - 1 := i64w (by omega) (by omega)
    have hw2 : IntKind.i64.wrap ((l.length : Int) + 1) = (((l ++ [x]).length : Nat) : Int) := by rw [i64w (by omega) (by omega), List.length_append]; rfl
    simp only [hx, hw, hw2]
    refine EvP.to (a := ((((), (!decide (SentP (endN (-1) l) (lastT 0 l) x), ())), ((a, (L, (k, (b, (c, (d, (e, ()))))))), ((x.1, (x.2.1, (x.2.2, ()))), ()))) : XS)) ?_ ?_
    · have no : ∀ q : Bool, q = (!decide (SentP (endN (-1) l) (lastT 0 l) x)) → ((((), (q, ())), ((a, (L, (k, (b, (c, (d, (e, ()))))))), ((x.1, (x.2.1, (x.2.2, ()))), ()))) : XS) = (((), (!decide (SentP (endN (-1) l) (lastT 0 l) x), ())), ((a, (L, (k, (b, (c, (d, (e, ()))))))), ((x.1, (x.2.1, (x.2.2, ()))), ()))) := fun q h => by rw [h]
      have bad : ¬SentP (endN (-1) l) (lastT 0 l) x → true = (!decide (SentP (endN (-1) l) (lastT 0 l) x)) := fun h => by rw [decide_eq_false h]; rfl
      refine EvP.to (known_s _) (EvP.nite (fun h1 => EvP.some (no _ (bad fun k => h1 k.1))) (fun h1 => EvP.to (tick_s _) (EvP.nite (fun h2 => EvP.some (no _ (bad fun k => h2 k.2.1))) (fun h2 => EvP.to (in_s _ _ _) (EvP.nite (fun h3 => EvP.some (no _ (bad fun k => h3 k.2.2.1))) (fun h3 => EvP.ite (fun h4 => ?_) (fun h4 => EvP.some ?_)))))))
      · have hb := rdL (l := l) (by omega) (x :: r)
        rw [← e1] at hb
        simp only [hb.1, hb.2]
        refine EvP.chk2 (by omega) (by omega) (EvP.ite (fun h5 => EvP.some (no _ (bad fun k => by have h5 : x.1 ≤ endN (-1) l := h5; have := k.2.2.2.1; omega))) (fun h5 => EvP.chk2 (by omega) (by omega) (EvP.some (no _ ?_))))
        rw [← decide_not]
        exact dec_eq (fun h6 k => by have h6 : x.2.1 < lastT 0 l := h6; have := k.2.2.2.2; omega) (fun h6 => Classical.byContradiction fun k => h6 ⟨h1, h2, h3, by have h5 : ¬ x.1 ≤ endN (-1) l := h5; omega, by have k : ¬ x.2.1 < lastT 0 l := k; omega⟩)
      · have hl : l = [] := List.eq_nil_of_length_eq_zero (by omega)
        subst hl
        exact no _ (by rw [decide_eq_true (sent_nil h1 h2 h3)]; rfl)
    · unfold sentB
      cases hb : decide (SentP (endN (-1) l) (lastT 0 l) x) with
      | false => exact EvP.yes rfl (EvP.some rfl)
      | true =>
        refine EvP.no rfl ?_
        have hi := ih (l ++ [x]) L (by rw [e1, List.append_assoc]; rfl) hL
        rw [endN_app, lastT_app] at hi
        exact hi
theorem space_s (a : Int) (L : List Snt) (k : Bool) (b c d e : Int) (h : (L.length : Int) ≤ 4611686018427387903) : EvP (fun N => spec_GoodSpace N a L k b c d e) (· = ((goodSB a L (k, (b, (c, (d, (e, ()))))), ()), ())) := by
  refine EvP.of (fun N => spec_GoodSpace.eq N _ _ _ _ _ _ _) (EvP.to (space_l_s a k b c d e L [] L rfl h) ?_)
  show EvP _ (· = ((sentB (-1) 0 L && (_ && _), ()), ()))
  show EvP (fun n => orK (if sentB (-1) 0 L = true then _ else _) _ _) _
  cases sentB (-1) 0 L with
  | true =>
    refine EvP.inr (EvP.to (in_s _ _ _) (EvP.ite (fun h1 => EvP.ite (fun h2 => EvP.to (goodRtt_s _ _ _ _ _) (EvP.some ?_)) (fun h2 => EvP.some ?_)) (fun h1 => EvP.some ?_)))
    · dsimp only at h1 h2 ⊢
      rw [decide_eq_true h1, decide_eq_true h2]
      rfl
    · dsimp only at h1 h2 ⊢
      rw [decide_eq_true h1, decide_eq_false h2]
      rfl
    · dsimp only at h1 ⊢
      rw [decide_eq_false h1]
      rfl
  | false => exact EvP.inl (EvP.some rfl)
end Go.Proofs.Ytbfkfhadcmpndaa.CFnAcked
