/- A further round trip, how long is waited, and whether a number is in ranges: both packages. -/
import Derived.Test.YtbfkfhadcmpndaaQAckSFnAcked
set_option linter.unusedVariables false
set_option linter.unusedSimpArgs false
namespace Go.Proofs.Ytbfkfhadcmpndaa.CFnAcked
open Go Go.Proofs Go.Proofs.YtbfkfhadcmpndaaPM Go.Proofs.Ytbfkfhadcmpndaa.Q Go.Proofs.Ytbfkfhadcmpndaa.GFnAcked

theorem mmax_eq (a b : Int) : mmI true a b = maxF a b := by
  have := mmax_f a b
  unfold maxF
  split <;> omega
theorem mmin_eq (a b : Int) : mmI false a b = minF a b := by
  have := mmin_f a b
  unfold minF
  split <;> omega
theorem td {x n : Int} (h : 0 ≤ x) : Int.tdiv x n = x / n := Int.tdiv_eq_ediv_of_nonneg h
theorem samp_i {k : Bool} {a b c d lat delay : Int} (h : goodRB (k, (a, (b, (c, (d, ()))))) = true) (hl : TickN lat) (hd : TickN delay) :
    EvP (fun N => impl_sampled N k a b c d lat delay) (· = ((sampF (k, (a, (b, (c, (d, ()))))) lat delay, ()), ())) := by
  obtain ⟨l1, l2⟩ := hl
  obtain ⟨d1, d2⟩ := hd
  refine EvP.of (fun N => impl_sampled.eq N _ _ _ _ _ _ _) ?_
  cases k with
  | false =>
    refine EvP.yes rfl (EvP.some ?_)
    rw [td l1, i64w (by omega) (by omega)]
    rfl
  | true =>
    obtain ⟨g1, g2, g3, g4, g5⟩ := goodRB_t h
    have m := minF_r l1 g1
    have j := adjF_r (delay := delay) m.1 m.2.1 l2 d1
    have ab := absF_r (a := c - adjF (minF lat b) lat delay) (by omega) (by omega)
    refine EvP.no rfl ?_
    rw [mmin_eq]
    show EvP _ (· = (((true, (lat, (minF lat b, ((7 * c + adjF (minF lat b) lat delay) / 8, ((3 * d + absF (c - adjF (minF lat b) lat delay)) / 4, ()))))), ()), ()))
    have e : ∀ x : Int, adjF (minF lat b) lat delay = x → EvP (fun N => some ((((), ((), (x, ()))), ((true, (lat, (minF lat b, (c, (d, ()))))), ((false, (0, (0, (0, (0, ()))))), ()))) : (Unit × (Unit × (Int × Unit))) × (Rt × (Rt × Unit)))) (· = (((), ((), (adjF (minF lat b) lat delay, ()))), ((true, (lat, (minF lat b, (c, (d, ()))))), ((false, (0, (0, (0, (0, ()))))), ())))) := fun x h => EvP.some (by rw [h])
    rw [i64w (n := lat - delay) (by omega) (by omega)]
    refine EvP.to (EvP.ite (fun h1 => e _ (by unfold adjF; exact if_pos h1)) (fun h1 => e _ (by unfold adjF; exact if_neg h1))) (EvP.some ?_)
    dsimp only
    have ea : mmI true (IntKind.i64.wrap (c - adjF (minF lat b) lat delay)) (IntKind.i64.wrap (0 - IntKind.i64.wrap (c - adjF (minF lat b) lat delay))) = absF (c - adjF (minF lat b) lat delay) := by
      rw [i64w (n := c - adjF (minF lat b) lat delay) (by omega) (by omega), i64w (n := 0 - _) (by omega) (by omega), mmax_eq]
      unfold maxF absF
      split <;> split <;> omega
    rw [ea]
    generalize minF lat b = mn at *
    generalize adjF mn lat delay = ad at *
    generalize absF (c - ad) = ap at *
    rw [i64w (n := 7 * c) (by omega) (by omega), i64w (n := 7 * c + ad) (by omega) (by omega), td (by omega), i64w (n := (7 * c + ad) / 8) (by omega) (by omega),
      i64w (n := 3 * d) (by omega) (by omega), i64w (n := 3 * d + ap) (by omega) (by omega), td (by omega), i64w (n := (3 * d + ap) / 4) (by omega) (by omega)]
theorem samp_s {k : Bool} {a b c d lat delay : Int} (h : goodRB (k, (a, (b, (c, (d, ()))))) = true) (hl : TickN lat) (hd : TickN delay) :
    EvP (fun N => spec_l12Sample N k a b c d lat delay) (· = ((sampF (k, (a, (b, (c, (d, ()))))) lat delay, ()), ())) := by
  obtain ⟨l1, l2⟩ := hl
  obtain ⟨d1, d2⟩ := hd
  refine EvP.of (fun N => spec_l12Sample.eq N _ _ _ _ _ _ _) ?_
  cases k with
  | false =>
    refine EvP.yes rfl (EvP.some ?_)
    rw [td l1, i64w (by omega) (by omega)]
    rfl
  | true =>
    obtain ⟨g1, g2, g3, g4, g5⟩ := goodRB_t h
    have m := minF_r l1 g1
    have j := adjF_r (delay := delay) m.1 m.2.1 l2 d1
    have ab := absF_r (a := c - adjF (minF lat b) lat delay) (by omega) (by omega)
    refine EvP.no rfl ?_
    show EvP _ (· = (((true, (lat, (minF lat b, ((7 * c + adjF (minF lat b) lat delay) / 8, ((3 * d + absF (c - adjF (minF lat b) lat delay)) / 4, ()))))), ()), ()))
    have e0 : ∀ x : Int, minF lat b = x → EvP (fun N => some ((((), ((), ())), ((true, (lat, (x, (c, (d, ()))))), ((false, (0, (0, (0, (0, ()))))), ()))) : (Unit × (Unit × Unit)) × (Rt × (Rt × Unit)))) (· = (((), ((), ())), ((true, (lat, (minF lat b, (c, (d, ()))))), ((false, (0, (0, (0, (0, ()))))), ())))) := fun x h => EvP.some (by rw [h])
    have e : ∀ x y : Int, y = x → EvP (fun N => some ((((), ((), (x, ()))), ((true, (lat, (minF lat b, (c, (d, ()))))), ((false, (0, (0, (0, (0, ()))))), ()))) : (Unit × (Unit × (Int × Unit))) × (Rt × (Rt × Unit)))) (· = (((), ((), (y, ()))), ((true, (lat, (minF lat b, (c, (d, ()))))), ((false, (0, (0, (0, (0, ()))))), ())))) := fun x y h => EvP.some (by rw [h])
    rw [i64w (n := lat - delay) (by omega) (by omega)]
    refine EvP.to (EvP.ite (fun h1 => e0 _ (by unfold minF; exact if_pos h1)) (fun h1 => e0 _ (by unfold minF; exact if_neg h1))) ?_
    dsimp only
    refine EvP.to (EvP.ite (fun h1 => e _ (adjF (minF lat b) lat delay) (by unfold adjF; exact if_pos h1)) (fun h1 => e _ _ (by unfold adjF; exact if_neg h1))) ?_
    dsimp only
    generalize minF lat b = mn at *
    generalize adjF mn lat delay = ad at *
    rw [i64w (n := c - ad) (by omega) (by omega), i64w (n := 0 - (c - ad)) (by omega) (by omega)]
    refine EvP.to (EvP.ite (fun h1 => e _ (absF (c - ad)) (by unfold absF; exact if_pos h1)) (fun h1 => e _ _ (by unfold absF; exact if_neg h1))) (EvP.some ?_)
    dsimp only
    generalize absF (c - ad) = ap at *
    rw [i64w (n := 7 * c) (by omega) (by omega), i64w (n := 7 * c + ad) (by omega) (by omega), td (by omega), i64w (n := (7 * c + ad) / 8) (by omega) (by omega),
      i64w (n := 3 * d) (by omega) (by omega), i64w (n := 3 * d + ap) (by omega) (by omega), td (by omega), i64w (n := (3 * d + ap) / 4) (by omega) (by omega)]
theorem waitF_r {a b c d : Int} (h : goodRB (true, (a, (b, (c, (d, ()))))) = true) : 1 ≤ waitF (true, (a, (b, (c, (d, ()))))) ∧ waitF (true, (a, (b, (c, (d, ()))))) ≤ 2000000000 ∧ 0 ≤ maxF c a ∧ maxF c a ≤ 1000000000 := by
  obtain ⟨g1, g2, g3, g4, g5⟩ := goodRB_t h
  have h1 : 0 ≤ maxF c a ∧ maxF c a ≤ 1000000000 := by unfold maxF; split <;> omega
  show 1 ≤ maxF (maxF c a * 9 / 8) 1 ∧ maxF (maxF c a * 9 / 8) 1 ≤ 2000000000 ∧ _
  generalize maxF c a = w at *
  refine ⟨?_, ?_, h1⟩ <;> (unfold maxF; split <;> omega)
theorem wait_i {a b c d : Int} (h : goodRB (true, (a, (b, (c, (d, ()))))) = true) : EvP (fun N => impl_Rtt_wait N true a b c d) (· = ((waitF (true, (a, (b, (c, (d, ()))))), ()), ())) := by
  obtain ⟨_, _, h1, h2⟩ := waitF_r h
  refine EvP.of (fun N => impl_Rtt_wait.eq N _ _ _ _ _) (EvP.some ?_)
  show _ = ((maxF (maxF c a * 9 / 8) 1, ()), ())
  rw [mmax_eq, mmax_eq]
  generalize maxF c a = w at *
  rw [i64w (n := w * 9) (by omega) (by omega), td (by omega), i64w (by omega) (by omega)]
theorem wait_s {k : Bool} {a b c d : Int} (h : goodRB (k, (a, (b, (c, (d, ()))))) = true) : EvP (fun N => spec_l12Wait N k a b c d) (· = ((match k with | true => waitF (k, (a, (b, (c, (d, ()))))) | false => -1, ()), ())) := by
  refine EvP.of (fun N => spec_l12Wait.eq N _ _ _ _ _) ?_
  cases k with
  | false => exact EvP.yes rfl (EvP.some rfl)
  | true =>
    obtain ⟨_, _, h1, h2⟩ := waitF_r h
    refine EvP.no rfl ?_
    have e : ∀ x : Int, maxF c a = x → EvP (fun N => some (((x, ()), ((true, (a, (b, (c, (d, ()))))), ())) : (Int × Unit) × (Rt × Unit))) (· = ((maxF c a, ()), ((true, (a, (b, (c, (d, ()))))), ()))) := fun x h => EvP.some (by rw [h])
    refine EvP.to (EvP.ite (fun h1 => e _ (by unfold maxF; exact if_pos h1)) (fun h1 => e _ (by unfold maxF; exact if_neg h1))) ?_
    show EvP _ (· = ((maxF (maxF c a * 9 / 8) 1, ()), ()))
    dsimp only
    generalize maxF c a = w at *
    rw [i64w (n := w * 9) (by omega) (by omega), td (by omega), i64w (by omega) (by omega)]
    refine EvP.ite (fun h3 => EvP.some ?_) (fun h3 => EvP.some ?_)
    · rw [show maxF (w * 9 / 8) 1 = 1 by unfold maxF; exact if_pos h3]
    · rw [show maxF (w * 9 / 8) 1 = w * 9 / 8 by unfold maxF; exact if_neg h3]

/-! ### whether a number is in ranges -/
theorem has_l_s (n : Int) : ∀ (r l : List (Int × Int)) (L : List (Int × Int)), L = l ++ r → (L.length : Int) ≤ 4611686018427387903 →
    EvP (fun N => spec_l12Has.l0 N n L (L.length : Int) (l.length : Int)) (· = if hasB r n = true then .inl ((true, ()), ()) else .inr ((), ())) := by
  intro r
  induction r with
  | nil =>
    intro l L e hL
    rw [List.append_nil] at e
    subst e
    exact EvP.step (fun N => spec_l12Has.l0.eq N _ _ _ _) (EvP.neg (by omega) (EvP.some rfl))
  | cons x r ih =>
    intro l L e hL
    have hlen : L.length = l.length + (r.length + 1) := by rw [e, List.length_append, List.length_cons]
    refine EvP.step (fun N => spec_l12Has.l0.eq N _ _ _ _) (EvP.pos (by omega) (EvP.chk2 (by omega) (by omega) ?_))
    have hx : rdS RSh L (Int.toNat (l.length : Int)) = x := by rw [e]; exact rd_at l x r
    have hw2 : IntKind.i64.wrap ((l.length : Int) + 1) = (((l ++ [x]).length : Nat) : Int) := by rw [i64w (by omega) (by omega), List.length_append]; rfl
    simp only [hx, hw2]
    refine EvP.to (in_s _ _ _) ?_
    have hd : hasB (x :: r) n = (decide (x.1 ≤ n ∧ n ≤ x.2) || hasB r n) := rfl
    rw [hd]
    refine EvP.ite (fun h => EvP.some ?_) (fun h => ?_)
    · rw [decide_eq_true h, Bool.true_or, if_pos rfl]
    · rw [decide_eq_false h, Bool.false_or]
      exact ih (l ++ [x]) L (by rw [e, List.append_assoc]; rfl) hL
theorem has_s (l : List (Int × Int)) (n : Int) (h : (l.length : Int) ≤ 4611686018427387903) : EvP (fun N => spec_l12Has N l n) (· = ((hasB l n, ()), ())) := by
  refine EvP.of (fun N => spec_l12Has.eq N _ _) (EvP.to (has_l_s n l [] l rfl h) ?_)
  show EvP (fun N => orK (if hasB l n = true then _ else _) _ _) _
  cases hasB l n with
  | true => exact EvP.inl (EvP.some rfl)
  | false => exact EvP.inr (EvP.some rfl)
theorem has_l_i (n : Int) : ∀ (r l : List (Int × Int)) (L : List (Int × Int)), L = l ++ r → (L.length : Int) ≤ 4611686018427387903 →
    EvP (fun N => slices_IndexFuncimpl_Range_impl_Range.l0 N L (L.length : Int) (l.length : Int) n) (fun z => match hasB r n with | true => ∃ k : Int, 0 ≤ k ∧ z = .inl ((k, ()), ((n, ()), ())) | false => z = .inr ((), ((n, ()), ()))) := by
  intro r
  induction r with
  | nil =>
    intro l L e hL
    rw [List.append_nil] at e
    subst e
    exact EvP.step (fun N => slices_IndexFuncimpl_Range_impl_Range.l0.eq N _ _ _ _) (EvP.neg (by omega) (EvP.some rfl))
  | cons x r ih =>
    intro l L e hL
    have hlen : L.length = l.length + (r.length + 1) := by rw [e, List.length_append, List.length_cons]
    refine EvP.step (fun N => slices_IndexFuncimpl_Range_impl_Range.l0.eq N _ _ _ _) (EvP.pos (by omega) (EvP.chk2 (by omega) (by omega) ?_))
    have hx : rdS RSh L (Int.toNat (l.length : Int)) = x := by rw [e]; exact rd_at l x r
    have hw2 : IntKind.i64.wrap ((l.length : Int) + 1) = (((l ++ [x]).length : Nat) : Int) := by rw [i64w (by omega) (by omega), List.length_append]; rfl
    simp only [hx, hw2]
    refine EvP.to (EvP.of (fun N => impl_hasNumber_1.eq N _ _ _) (EvP.to (in_i _ _ _) (EvP.some rfl))) ?_
    have hd : hasB (x :: r) n = (decide (x.1 ≤ n ∧ n ≤ x.2) || hasB r n) := rfl
    rw [hd]
    refine EvP.ite (fun h => EvP.some ?_) (fun h => ?_)
    · rw [decide_eq_true h, Bool.true_or]
      exact ⟨_, by omega, rfl⟩
    · rw [decide_eq_false h, Bool.false_or]
      exact ih (l ++ [x]) L (by rw [e, List.append_assoc]; rfl) hL
theorem has_i (l : List (Int × Int)) (n : Int) (h : (l.length : Int) ≤ 4611686018427387903) : EvP (fun N => impl_hasNumber N l n) (· = ((hasB l n, ()), ())) := by
  refine EvP.of (fun N => impl_hasNumber.eq N _ _) (EvP.to (a := ((hasB l n, ()), ((n, ()), ()))) ?_ (EvP.some rfl))
  refine EvP.of (fun N => slices_ContainsFuncimpl_Range_impl_Range.eq N _ _) ?_
  refine EvP.andK (Q := fun z => decide (0 ≤ z.1.1) = hasB l n ∧ z.2 = ((n, ()), ())) ?_ ?_
  · refine EvP.of (fun N => slices_IndexFuncimpl_Range_impl_Range.eq N _ _) (EvP.andK (has_l_i n l [] l rfl h) fun z hz => ?_)
    cases hb : hasB l n with
    | true =>
      rw [hb] at hz
      obtain ⟨k, hk, rfl⟩ := hz
      exact EvP.inl (EvP.some ⟨decide_eq_true hk, rfl⟩)
    | false =>
      rw [hb] at hz
      subst hz
      exact EvP.inr (EvP.some ⟨rfl, rfl⟩)
  · rintro ⟨⟨z, ⟨⟩⟩, w⟩ ⟨h1, h2⟩
    exact EvP.some (by dsimp only at h1 h2 ⊢; rw [h1, h2])

/-! ### good ranges -/
def goodLB (l : List (Int × Int)) : Bool := decide ((l.length : Int) ≤ 20) && rngB topP l
theorem goodL_i (l : List (Int × Int)) : EvP (fun N => impl_GoodRanges N l) (· = ((goodLB l, ()), ())) := by
  refine EvP.of (fun N => impl_GoodRanges.eq N _) (EvP.ite (fun h => EvP.to (ranges_impl l (by omega)) (EvP.some ?_)) (fun h => EvP.some ?_))
  · unfold goodLB; rw [decide_eq_true h]; rfl
  · unfold goodLB; rw [decide_eq_false h]; rfl
theorem goodL_s (l : List (Int × Int)) : EvP (fun N => spec_l12Ranges N l) (· = ((goodLB l, ()), ())) := by
  refine EvP.of (fun N => spec_l12Ranges.eq N _) (EvP.ite (fun h => EvP.some ?_) (fun h1 => EvP.ite (fun h => EvP.to (ranges_spec l (by omega)) (EvP.some ?_)) (fun h => EvP.some ?_)))
  · have : l = [] := List.eq_nil_of_length_eq_zero (by omega)
    subst this
    rfl
  · unfold goodLB; dsimp only; rw [decide_eq_true h, decide_eq_true (show 1 ≤ (l.length : Int) ∧ (l.length : Int) ≤ 20 by omega), Bool.and_true, Bool.true_and]
  · unfold goodLB; rw [decide_eq_false h]; rfl
end Go.Proofs.Ytbfkfhadcmpndaa.CFnAcked
