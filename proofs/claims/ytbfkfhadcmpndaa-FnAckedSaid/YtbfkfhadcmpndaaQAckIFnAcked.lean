/- What an acknowledgement does: the program's function gives the same. -/
import Derived.Test.YtbfkfhadcmpndaaQAckUFnAcked
set_option linter.unusedVariables false
set_option linter.unusedSectionVars false
set_option linter.unusedSimpArgs false
namespace Go.Proofs.Ytbfkfhadcmpndaa.CFnAcked
open Go Go.Proofs Go.Proofs.YtbfkfhadcmpndaaPM Go.Proofs.Ytbfkfhadcmpndaa.Q Go.Proofs.Ytbfkfhadcmpndaa.GFnAcked

theorem isLost_i (x : Snt) (now a : Int) (R : Rt) (ke : List Snt) (hR : goodRB R = true) (ha : -1 ≤ a ∧ a ≤ 4611686018427387903) (hn : TickN now) :
    EvP (fun N => impl_Space_isLost_2 N x.1 x.2.1 x.2.2 now a R.1 R.2.1 R.2.2.1 R.2.2.2.1 R.2.2.2.2.1 ke) (· = ((lostF a R now x, ()), (((a, ((), R)) : Us), (ke, ())))) := by
  refine EvP.of (fun N => impl_Space_isLost_2.eq N _ _ _ _ _ _ _ _ _ _ _) ?_
  refine EvP.to (a := (((), ((), ((R.1 && decide (x.2.1 ≤ now - waitF R), ())))), (((a, ((), R)) : Us), (ke, ((x.1, (x.2.1, (x.2.2, ()))), ()))))) ?_ ?_
  · obtain ⟨k, b, c, d, e, ⟨⟩⟩ := R
    obtain ⟨n1, n2⟩ := hn
    cases k with
    | true =>
      have := waitF_r hR
      refine EvP.yes rfl (EvP.to (wait_i hR) (EvP.some ?_))
      dsimp only
      rw [i64w (by omega) (by omega), Bool.true_and]
    | false => exact EvP.no rfl (EvP.some rfl)
  · unfold lostF
    refine EvP.ite (fun h => EvP.ite (fun h2 => EvP.some ?_) (fun h2 => EvP.some ?_)) (fun h => EvP.some ?_)
    · rw [i64w (by dsimp only; omega) (by dsimp only; omega)] at h2
      rw [decide_eq_true (show x.1 < a from h), decide_eq_true (show x.1 ≤ a - 3 from h2)]
      rfl
    · rw [i64w (by dsimp only; omega) (by dsimp only; omega)] at h2
      rw [decide_eq_true (show x.1 < a from h), decide_eq_false (show ¬ x.1 ≤ a - 3 from h2)]
      rfl
    · rw [decide_eq_false (show ¬ x.1 < a from h)]
      rfl
section
variable (now : Int) (s : Int) (S : List Snt) (T : Rt) (a : Int) (R : Rt) (q : Int) (Q : Rt) (A : List Int)
theorem lost_l_i (hR : goodRB R = true) (ha : -1 ≤ a ∧ a ≤ 4611686018427387903) (hn : TickN now) : ∀ (r l P : List Snt) (lo : List Int) (ke : List Snt), P = l ++ r → P.length ≤ 1000 → lo.length ≤ l.length → ke.length ≤ l.length →
    EvP (fun N => impl_TakeAck.l1 N now (P.length : Int) (l.length : Int) s S T.1 T.2.1 T.2.2.1 T.2.2.2.1 T.2.2.2.2.1 q Q.1 Q.2.1 Q.2.2.1 Q.2.2.2.1 Q.2.2.2.2.1 a R.1 R.2.1 R.2.2.1 R.2.2.2.1 R.2.2.2.2.1 A P lo ke)
      (· = (((), ((), ((), ((), ())))), (((s, (S, T)) : Sp), (((q, ((), Q)) : Us), (((a, ((), R)) : Us), (A, (P, (lo ++ (r.filter (lostF a R now)).map (·.1), (ke ++ r.filter (fun x => !lostF a R now x), ()))))))))) := by
  intro r
  induction r with
  | nil =>
    intro l P lo ke e hP h1 h2
    rw [List.append_nil] at e
    subst e
    refine EvP.step (fun N => impl_TakeAck.l1.eq N _ _ _ _ _ _ _ _ _ _ _ _ _ _ _ _ _ _ _ _ _ _ _ _ _ _) (EvP.neg (by omega) (EvP.some ?_))
    simp only [List.filter_nil, List.map_nil, List.append_nil]
  | cons x r ih =>
    intro l P lo ke e hP h1 h2
    have hlen : P.length = l.length + (r.length + 1) := by rw [e, List.length_append, List.length_cons]
    refine EvP.step (fun N => impl_TakeAck.l1.eq N _ _ _ _ _ _ _ _ _ _ _ _ _ _ _ _ _ _ _ _ _ _ _ _ _ _) (EvP.pos (by omega) ?_)
    have hx : rdS SSh P (Int.toNat (l.length : Int)) = x := by rw [e]; exact rdA SSh l x r
    have hw2 : IntKind.i64.wrap ((l.length : Int) + 1) = (((l ++ [x]).length : Nat) : Int) := by rw [i64w (by omega) (by omega), List.length_append]; rfl
    simp only [hx, hw2]
    refine EvP.to (a := (((), ((), ((), ((), ((), ()))))), (((s, (S, T)) : Sp), (((q, ((), Q)) : Us), (((a, ((), R)) : Us), (A, (P, ((match lostF a R now x with | true => lo ++ [x.1] | false => lo), ((match lostF a R now x with | true => ke | false => ke ++ [x]), ()))))))))) ?_ ?_
    · refine EvP.chk2 (by omega) (by omega) (EvP.to (isLost_i x now a R ke hR ha hn) ?_)
      cases hb : lostF a R now x with
      | true => exact EvP.yes rfl (EvP.chk1 (by unfold most; omega) (EvP.some rfl))
      | false => exact EvP.no rfl (EvP.chk1 (by unfold most; dsimp only; omega) (EvP.some rfl))
    · have hi := ih (l ++ [x]) P (match lostF a R now x with | true => lo ++ [x.1] | false => lo) (match lostF a R now x with | true => ke | false => ke ++ [x]) (by rw [e, List.append_assoc]; rfl) hP
        (by cases lostF a R now x <;> simp <;> omega) (by cases lostF a R now x <;> simp <;> omega)
      refine EvP.eq hi ?_
      rw [filt_cons, filt_cons]
      cases lostF a R now x <;> simp
end
section
variable (o : List (Int × Int)) (now delay s : Int) (S : List Snt) (T : Rt) (a : Int) (q : Int) (Q : Rt)
theorem ack_l_i (ho : 0 < o.length) (ho2 : o.length ≤ 1000) (hn : TickN now) (hd : TickN delay) (hT : goodRB T = true) : ∀ (r l : List Snt) (R : Rt) (A : List Int) (le : List Snt), S = l ++ r → S.length ≤ 1000 → A.length ≤ l.length → le.length ≤ l.length → (∀ x ∈ r, 0 ≤ x.2.1 ∧ x.2.1 ≤ now) →
    EvP (fun N => impl_TakeAck.l0 N o now delay [] S (S.length : Int) (l.length : Int) s S T.1 T.2.1 T.2.2.1 T.2.2.2.1 T.2.2.2.2.1 q Q.1 Q.2.1 Q.2.2.1 Q.2.2.2.1 Q.2.2.2.2.1 a R.1 R.2.1 R.2.2.1 R.2.2.2.1 R.2.2.2.2.1 A le)
      (· = (((), ((), ((), ((), ())))), (((s, (S, T)) : Sp), (((q, ((), Q)) : Us), (((a, ((), foldI o (topR o) now delay T R r)) : Us), (A ++ ackedL (hasB o) r, (le ++ leftL (hasB o) r, ()))))))) := by
  intro r
  induction r with
  | nil =>
    intro l R A le e hP h1 h2 hx
    rw [List.append_nil] at e
    subst e
    refine EvP.step (fun N => impl_TakeAck.l0.eq N _ _ _ _ _ _ _ _ _ _ _ _ _ _ _ _ _ _ _ _ _ _ _ _ _ _ _ _) (EvP.neg (by omega) (EvP.some ?_))
    simp only [ackedL, leftL, foldI, List.filter_nil, List.map_nil, List.append_nil]
  | cons x r ih =>
    intro l R A le e hP h1 h2 hxs
    have hlen : S.length = l.length + (r.length + 1) := by rw [e, List.length_append, List.length_cons]
    refine EvP.step (fun N => impl_TakeAck.l0.eq N _ _ _ _ _ _ _ _ _ _ _ _ _ _ _ _ _ _ _ _ _ _ _ _ _ _ _ _) (EvP.pos (by omega) ?_)
    have hx : rdS SSh S (Int.toNat (l.length : Int)) = x := by rw [e]; exact rdA SSh l x r
    have hw2 : IntKind.i64.wrap ((l.length : Int) + 1) = (((l ++ [x]).length : Nat) : Int) := by rw [i64w (by omega) (by omega), List.length_append]; rfl
    obtain ⟨t1, t2⟩ := hxs x (List.mem_cons_self ..)
    obtain ⟨n1, n2⟩ := hn
    have hw3 : IntKind.i64.wrap (now - x.2.1) = now - x.2.1 := i64w (by omega) (by omega)
    simp only [hx, hw2]
    have el : (l ++ [x]).length = l.length + 1 := by rw [List.length_append]; rfl
    refine EvP.to (a := (((), ((), ((), ((), ((), ()))))), (((s, (S, T)) : Sp), (((q, ((), Q)) : Us), (((a, ((), (match hitB o (topR o) x with | true => sampF T (now - x.2.1) delay | false => R))) : Us), ((match hasB o x.1 with | true => A ++ [x.1] | false => A), ((match hasB o x.1 with | true => le | false => le ++ [x]), ()))))))) ?_ ?_
    · refine EvP.chk2 (by omega) (by omega) (EvP.to (has_i o x.1 (by omega)) ?_)
      unfold hitB
      cases hb : hasB o x.1 with
      | false => exact EvP.yes rfl (EvP.chk1 (by unfold most; omega) (EvP.some rfl))
      | true =>
        refine EvP.no rfl (EvP.chk1 (by unfold most; omega) (EvP.chk1 (by omega) (EvP.ite (fun h => ?_) (fun h => EvP.some ?_))))
        · rw [decide_eq_true (show x.1 = topR o from h)]
          simp only [hw3]
          refine EvP.to (samp_i (k := T.1) (a := T.2.1) (b := T.2.2.1) (c := T.2.2.2.1) (d := T.2.2.2.2.1) hT ⟨by omega, by omega⟩ hd) (EvP.some rfl)
        · rw [decide_eq_false (show ¬ x.1 = topR o from h)]
          rfl
    · have hi := ih (l ++ [x]) (match hitB o (topR o) x with | true => sampF T (now - x.2.1) delay | false => R) (match hasB o x.1 with | true => A ++ [x.1] | false => A) (match hasB o x.1 with | true => le | false => le ++ [x]) (by rw [e, List.append_assoc]; rfl) hP
        (by cases hasB o x.1 <;> simp <;> omega) (by cases hasB o x.1 <;> simp <;> omega) (fun y hy => hxs y (List.mem_cons_of_mem _ hy))
      refine EvP.eq hi ?_
      unfold ackedL leftL
      rw [filt_cons, filt_cons]
      show _ = (_, (_, (_, (((a, ((), foldI o (topR o) now delay T _ r)) : Us), _))))
      cases hasB o x.1 <;> (simp; cases hitB o (topR o) x <;> rfl)
end
theorem take_i (a : Int) (S : List Snt) (R : Rt) (o : List (Int × Int)) (now delay : Int) (hS : S.length ≤ 1000) (ho : o.length ≤ 1000) :
    EvP (fun N => impl_TakeAck N a S R.1 R.2.1 R.2.2.1 R.2.2.2.1 R.2.2.2.2.1 o now delay) (· = ackF a S R o now delay) := by
  refine EvP.of (fun N => impl_TakeAck.eq N _ _ _ _ _ _ _ _ _ _) ?_
  have gb : ∀ c : Bool, (c = (goodSB a S R && (goodLB o && (decide (0 < o.length) && (decide (TickN now) && decide (TickN delay)))))) → gateB a S R o now delay = (c && decide (lastT 0 S ≤ now)) := fun c h => by rw [h]; unfold gateB; simp only [Bool.and_assoc]
  generalize hc : (goodSB a S R && (goodLB o && (decide (0 < o.length) && (decide (TickN now) && decide (TickN delay))))) = c at gb
  have gb := gb c rfl
  refine EvP.to (a := ((((), ((), (!c, ()))), (((a, (S, R)) : Sp), ((U0 : Us), ()))) : AX)) ?_ ?_
  · have bad : (goodSB a S R && (goodLB o && (decide (0 < o.length) && (decide (TickN now) && decide (TickN delay))))) = false → EvP (fun _ => some ((((), ((), (true, ()))), (((a, (S, R)) : Sp), ((U0 : Us), ()))) : AX)) (· = ((((), ((), (!c, ()))), (((a, (S, R)) : Sp), ((U0 : Us), ()))) : AX)) := fun h => EvP.some (by rw [← hc, h]; rfl)
    refine EvP.to (space_i a S R.1 R.2.1 R.2.2.1 R.2.2.2.1 R.2.2.2.2.1 (by omega)) ?_
    cases h1 : goodSB a S R with
    | false => exact EvP.yes rfl (bad (by rw [h1]; rfl))
    | true =>
      refine EvP.no rfl (EvP.to (goodL_i o) ?_)
      cases h2 : goodLB o with
      | false => exact EvP.yes rfl (bad (by rw [h1, h2]; rfl))
      | true =>
        refine EvP.no rfl (EvP.ite (fun h3 => bad (by rw [h1, h2, decide_eq_false (show ¬ 0 < o.length by omega)]; rfl)) (fun h3 => EvP.to (isTick_i now) (EvP.nite (fun h4 => bad (by rw [h1, h2, decide_eq_false (show ¬ TickN now from h4), Bool.false_and, Bool.and_false]; rfl)) (fun h4 => EvP.to (isTick_i delay) (EvP.some ?_)))))
        have : c = decide (TickN delay) := by
          rw [← hc, h1, h2, decide_eq_true (show 0 < o.length by omega), decide_eq_true (show TickN now from h4)]
          rfl
        rw [this]
  · unfold ackF
    cases c with
    | false =>
      rw [Bool.false_and] at gb
      rw [gb]
      exact EvP.yes rfl (EvP.some rfl)
    | true =>
      rw [Bool.true_and] at gb
      refine EvP.no rfl ?_
      refine EvP.to (a := ((((), ((), (!decide (lastT 0 S ≤ now), ()))), (((a, (S, R)) : Sp), ((U0 : Us), ()))) : AX)) ?_ ?_
      · refine EvP.ite (fun h => EvP.chk2 (by dsimp only at h ⊢; rw [i64w (by omega) (by omega)]; omega) (by dsimp only at h ⊢; rw [i64w (by omega) (by omega)]; omega) (EvP.some ?_)) (fun h => EvP.some ?_)
        · have h : 0 < (S.length : Int) := h
          have e := (rdL (l := S) (by omega) []).2
          rw [List.append_nil] at e
          dsimp only
          rw [i64w (n := (S.length : Int) - 1) (by omega) (by omega)]
          have e2 : decide (now < (rdS (.pair (.int .i64) (.pair (.int .i64) (.int .i64))) S (Int.toNat ((S.length : Int) - 1))).2.1) = !decide (lastT 0 S ≤ now) := by
            rw [← decide_not]
            refine dec_eq (fun h => ?_) (fun h => ?_)
            · have h : now < lastT 0 S := by rw [← e]; exact h
              omega
            · have h : now < lastT 0 S := by omega
              rw [← e] at h
              exact h
          rw [e2]
        · have h : ¬ 0 < (S.length : Int) := h
          have : S = [] := List.eq_nil_of_length_eq_zero (by omega)
          subst this
          have ht : TickN now := by
            simp only [Bool.and_eq_true, decide_eq_true_eq] at hc
            exact hc.2.2.2.1
          rw [decide_eq_true (show lastT 0 [] ≤ now from ht.1)]
          rfl
      · rw [gb]
        cases hg : decide (lastT 0 S ≤ now) with
        | false => exact EvP.yes rfl (EvP.some rfl)
        | true =>
          rw [hg] at gb
          obtain ⟨g1, g2, g3, g4, g5, g6⟩ := gateB_p gb
          obtain ⟨s1, s2, s3, s4⟩ := goodSB_p g1
          obtain ⟨v1, v2⟩ := topR_var g2 g3
          have m := maxF_r s2 v1
          refine EvP.no rfl (EvP.chk1 (by omega) ?_)
          rw [mmax_eq]
          have hx : ∀ x ∈ S, 0 ≤ x.2.1 ∧ x.2.1 ≤ now := fun x hx => by have h := sentB_mem S _ _ s1 hx; exact ⟨h.1.2.1.1, by have := h.2; omega⟩
          have l0 := ack_l_i o now delay a S R (maxF a (topR o)) 0 (false, (0, (0, (0, (0, ()))))) g3 (by omega) g4 g5 s4 S [] R [] [] rfl (by omega) (by simp) (by simp) hx
          refine EvP.to l0 ?_
          have hR := foldS_good (l := o) (T := topR o) g5.1 g4.2 S R s4 hx
          rw [← fold_eq R S _ _ s1] at hR
          show EvP _ (· = ackG a S R o now delay)
          unfold ackG ackR
          rw [← fold_eq R S _ _ s1]
          generalize foldI o (topR o) now delay R R S = R2 at *
          dsimp only
          have hle : (leftL (hasB o) S).length ≤ 1000 := Nat.le_trans (List.length_filter_le _ _) hS
          exact EvP.to (lost_l_i now a S R (maxF a (topR o)) R2 0 (false, (0, (0, (0, (0, ()))))) (ackedL (hasB o) S) hR m g4 (leftL (hasB o) S) [] (leftL (hasB o) S) [] [] rfl hle (by simp) (by simp)) (EvP.some rfl)
end Go.Proofs.Ytbfkfhadcmpndaa.CFnAcked
