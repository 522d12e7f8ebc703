/- Drawn spaces, as a whole: they come out, and are not long. -/
import Derived.Test.YtbfkfhadcmpndaaQAckDFnAcked
set_option linter.unusedVariables false
set_option linter.unusedSectionVars false
set_option linter.unusedSimpArgs false
namespace Go.Proofs.Ytbfkfhadcmpndaa.CFnAcked
open Go Go.Proofs Go.Proofs.YtbfkfhadcmpndaaPM Go.Proofs.Ytbfkfhadcmpndaa.Q Go.Proofs.Ytbfkfhadcmpndaa.GFnAcked

theorem ackF_len {a : Int} {S : List Snt} {R : Rt} {o : List (Int × Int)} {now delay : Int} : (ackF a S R o now delay).2.1.length ≤ S.length := by
  unfold ackF
  cases gateB a S R o now delay with
  | false => exact Nat.zero_le _
  | true => exact Nat.le_trans (List.length_filter_le _ _) (List.length_filter_le _ _)
section
variable {l : List Int} (hl : Bytes l)
include hl
theorem space_l0 : ∀ (k : Nat) (t : Int), t = (k : Int) → k ≤ 100 → ∀ (d e a s : Int) (q : Int) (Q : Rt) (b : Int) (R : Rt) (S : List Snt), 0 ≤ a → a + 50 * t ≤ 4611686018426000000 → S.length ≤ 60 →
    EvP (fun N => spec_l1Cur_space.l0 N d e t l a s q Q.1 Q.2.1 Q.2.2.1 Q.2.2.2.1 Q.2.2.2.2.1 b R.1 R.2.1 R.2.2.1 R.2.2.2.1 R.2.2.2.2.1 S) (fun z => z.2.1.1 = l ∧ 0 ≤ z.2.1.2.1 ∧ z.2.1.2.1 ≤ a + 50 * t ∧ z.2.2.2.2.1.length ≤ 60) := by
  intro k
  induction k with
  | zero =>
    intro t ht hk d e a s q Q b R S h0 h1 h2
    exact EvP.step (fun N => spec_l1Cur_space.l0.eq N _ _ _ _ _ _ _ _ _ _ _ _ _ _ _ _ _ _ _) (EvP.neg (by omega) (EvP.some ⟨rfl, h0, (by dsimp only; omega), h2⟩))
  | succ k ih =>
    intro t ht hk d e a s q Q b R S h0 h1 h2
    refine EvP.step (fun N => spec_l1Cur_space.l0.eq N _ _ _ _ _ _ _ _ _ _ _ _ _ _ _ _ _ _ _) (EvP.pos (by omega) ?_)
    rw [i64w (n := t - 1) (by omega) (by omega)]
    refine EvP.andK (Q := fun z => z.2.1.1 = l ∧ 0 ≤ z.2.1.2.1 ∧ z.2.1.2.1 ≤ a + 50 ∧ z.2.2.2.2.2.1.length ≤ 60) ?_ ?_
    · refine EvP.andK (pick_ok hl 20 a s h0 (by omega)) ?_
      rintro ⟨⟨x, ⟨⟩⟩, ⟨l2, a2, s2, ⟨⟩⟩, ⟨⟩⟩ ⟨_, q1, q2, q3⟩
      dsimp only at q1 q2 q3
      subst q1
      refine EvP.andK (one_ok hl 5 a2 s2 (by omega) (by omega)) ?_
      rintro ⟨⟨y, ⟨⟩⟩, ⟨l3, a3, s3, ⟨⟩⟩, ⟨⟩⟩ ⟨q4, q5, q6⟩
      dsimp only at q4 q5 q6
      subst q4
      refine EvP.sel (fun _ => ?_) (fun _ => ?_)
      · refine EvP.andK (numbers_ok hl a3 s3 (by omega) (by omega)) ?_
        rintro ⟨u, ⟨l4, a4, s4, ⟨⟩⟩, p, ⟨⟩⟩ ⟨w1, w2, w3, w4⟩
        dsimp only at w1 w2 w3 w4
        subst w1
        refine EvP.ite (fun hp => ?_) (fun _ => EvP.some ⟨rfl, w2, (by dsimp only; omega), h2⟩)
        refine EvP.andK (pick_ok hl 9 a4 s4 (by omega) (by omega)) ?_
        rintro ⟨⟨y1, ⟨⟩⟩, ⟨l5, a5, s5, ⟨⟩⟩, ⟨⟩⟩ ⟨_, r1, r2, r3⟩
        dsimp only at r1 r2 r3
        subst r1
        refine EvP.to (take_s b S R p _ y1 (by omega) (by omega)) (EvP.sel (fun _ => EvP.chk1 hp (EvP.some ?_)) (fun _ => EvP.some ⟨rfl, (by dsimp only; omega), (by dsimp only; omega), h2⟩))
        exact ⟨rfl, (by dsimp only; omega), (by dsimp only; omega), Nat.le_trans ackF_len h2⟩
      · refine EvP.andK (Q := fun z => z.2.1.1 = l3 ∧ 0 ≤ z.2.1.2.1 ∧ z.2.1.2.1 ≤ a + 10 ∧ z.2.2.2.2.2.1.length ≤ 60) ?_ ?_
        · refine EvP.andK (pick_ok hl 1200 a3 s3 (by omega) (by omega)) ?_
          rintro ⟨⟨y1, ⟨⟩⟩, ⟨l5, a5, s5, ⟨⟩⟩, ⟨⟩⟩ ⟨_, r1, r2, r3⟩
          dsimp only at r1 r2 r3
          subst r1
          refine EvP.andK (send_ok hl b S R e _ y1 h2) fun z hz => EvP.sel (fun _ => EvP.some ⟨rfl, (by dsimp only; omega), (by dsimp only; omega), hz⟩) (fun _ => EvP.some ⟨rfl, (by dsimp only; omega), (by dsimp only; omega), h2⟩)
        · rintro ⟨u, ⟨l4, a4, s4, ⟨⟩⟩, g⟩ ⟨w1, w2, w3, w4⟩
          dsimp only at w1 w2 w3 w4
          subst w1
          refine EvP.andK (pick_ok hl 2 a4 s4 (by omega) (by omega)) ?_
          rintro ⟨⟨y1, ⟨⟩⟩, ⟨l5, a5, s5, ⟨⟩⟩, ⟨⟩⟩ ⟨_, r1, r2, r3⟩
          dsimp only at r1 r2 r3
          subst r1
          exact EvP.some ⟨rfl, (by dsimp only; omega), (by dsimp only; omega), w4⟩
    · rintro ⟨u, ⟨l4, a4, s4, ⟨⟩⟩, g⟩ ⟨w1, w2, w3, w4⟩
      dsimp only at w1 w2 w3 w4
      subst w1
      dsimp only
      exact (ih (t - 1) (by omega) (by omega) _ _ a4 s4 g.1.1 g.1.2.2 g.2.1.1 g.2.1.2.2 _ w2 (by omega) w4).mono fun w hw => ⟨hw.1, hw.2.1, by have := hw.2.2.1; omega, hw.2.2.2⟩
theorem space_ok (s : Int) : EvP (fun N => spec_l1Cur_space N l 0 s) (fun z => z.2.1.1 = l ∧ 0 ≤ z.2.1.2.1 ∧ z.2.1.2.1 ≤ 2000 ∧ z.2.2.1.length ≤ 61) := by
  refine EvP.of (fun N => spec_l1Cur_space.eq N _ _ _) (EvP.andK (pick_ok hl 14 0 s (by omega) (by omega)) ?_)
  rintro ⟨⟨x, ⟨⟩⟩, ⟨l2, a2, s2, ⟨⟩⟩, ⟨⟩⟩ ⟨⟨x1, _, x2, _⟩, q1, q2, q3⟩
  dsimp only at q1 q2 q3 x1 x2
  subst q1
  have x3 := x2 (by omega)
  refine EvP.andK (space_l0 hl x.toNat x (by omega) (by omega) 0 0 a2 s2 0 (false, (0, (0, (0, (0, ()))))) (-1) (false, (0, (0, (0, (0, ()))))) [] (by omega) (by omega) (by simp)) ?_
  rintro ⟨u, ⟨l4, a4, s4, ⟨⟩⟩, g1, g2, g, ⟨⟩⟩ ⟨w1, w2, w3, w4⟩
  dsimp only at w1 w2 w3 w4
  subst w1
  refine EvP.andK (pick_ok hl 40 a4 s4 (by omega) (by omega)) ?_
  rintro ⟨⟨y1, ⟨⟩⟩, ⟨l5, a5, s5, ⟨⟩⟩, ⟨⟩⟩ ⟨_, r1, r2, r3⟩
  dsimp only at r1 r2 r3
  subst r1
  refine EvP.ite (fun _ => ?_) (fun _ => EvP.ite (fun _ => ?_) (fun _ => EvP.some ⟨rfl, (by dsimp only; omega), (by dsimp only; omega), (by dsimp only; omega)⟩))
  · refine EvP.andK (among_ok hl _ (by simp) a5 s5 (by omega) (by omega)) ?_
    rintro ⟨⟨y2, ⟨⟩⟩, ⟨l6, a6, s6, ⟨⟩⟩, ⟨⟩⟩ ⟨_, r4, r5, r6⟩
    dsimp only at r4 r5 r6
    subst r4
    exact EvP.some ⟨rfl, (by dsimp only; omega), (by dsimp only; omega), (by dsimp only; omega)⟩
  · refine EvP.andK (pick_ok hl 9 a5 s5 (by omega) (by omega)) ?_
    rintro ⟨⟨y2, ⟨⟩⟩, ⟨l6, a6, s6, ⟨⟩⟩, ⟨⟩⟩ ⟨_, r4, r5, r6⟩
    dsimp only at r4 r5 r6
    subst r4
    refine EvP.andK (pick_ok hl 9 a6 s6 (by omega) (by omega)) ?_
    rintro ⟨⟨y3, ⟨⟩⟩, ⟨l7, a7, s7, ⟨⟩⟩, ⟨⟩⟩ ⟨_, r7, r8, r9⟩
    dsimp only at r7 r8 r9
    subst r7
    refine EvP.chk1 (by unfold most; dsimp only; omega) (EvP.some ⟨rfl, (by dsimp only; omega), (by dsimp only; omega), ?_⟩)
    dsimp only
    rw [List.length_append, List.length_singleton]
    omega
theorem draw_ok : EvP (fun N => spec_DrawTakeAck N l) (fun z => z.2.1.length ≤ 61 ∧ z.2.2.1.length ≤ 21) := by
  refine EvP.of (fun N => spec_DrawTakeAck.eq N _) (EvP.andK (space_ok hl 0) ?_)
  rintro ⟨u, ⟨l4, a4, s4, ⟨⟩⟩, g, ⟨⟩⟩ ⟨w1, w2, w3, w4⟩
  dsimp only at w1 w2 w3 w4
  subst w1
  refine EvP.andK (numbers_ok hl a4 s4 (by omega) (by omega)) ?_
  rintro ⟨v, ⟨l5, a5, s5, ⟨⟩⟩, p, ⟨⟩⟩ ⟨v1, v2, v3, v4⟩
  dsimp only at v1 v2 v3 v4
  subst v1
  refine EvP.andK (pick_ok hl 80 a5 s5 (by omega) (by omega)) ?_
  rintro ⟨⟨y2, ⟨⟩⟩, ⟨l6, a6, s6, ⟨⟩⟩, ⟨⟩⟩ ⟨_, r4, r5, r6⟩
  dsimp only at r4 r5 r6
  subst r4
  refine EvP.andK (pick_ok hl 20 a6 s6 (by omega) (by omega)) ?_
  rintro ⟨⟨y3, ⟨⟩⟩, ⟨l7, a7, s7, ⟨⟩⟩, ⟨⟩⟩ ⟨_, r7, r8, r9⟩
  exact EvP.some ⟨w4, v4⟩
end
end Go.Proofs.Ytbfkfhadcmpndaa.CFnAcked
