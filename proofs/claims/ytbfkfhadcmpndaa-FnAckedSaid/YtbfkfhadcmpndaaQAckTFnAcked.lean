/- What an acknowledgement does: both packages give the same. -/
import Derived.Test.YtbfkfhadcmpndaaQAckFFnAcked
set_option linter.unusedVariables false
set_option linter.unusedSectionVars false
set_option linter.unusedSimpArgs false
namespace Go.Proofs.Ytbfkfhadcmpndaa.CFnAcked
open Go Go.Proofs Go.Proofs.YtbfkfhadcmpndaaPM Go.Proofs.Ytbfkfhadcmpndaa.Q Go.Proofs.Ytbfkfhadcmpndaa.GFnAcked

abbrev Us := Int × (Unit × (Bool × (Int × (Int × (Int × (Int × Unit))))))
abbrev lsB (a : Int) (R : Rt) (now : Int) : Snt → Bool := lostF a R now
def waitW (R : Rt) : Int := match R.1 with | true => waitF R | false => -1
theorem waitW_r {R : Rt} (h : goodRB R = true) : -1 ≤ waitW R ∧ waitW R ≤ 2000000000 ∧ (R.1 = true → waitW R = waitF R ∧ 1 ≤ waitW R) ∧ (R.1 = false → waitW R = -1) := by
  obtain ⟨k, a, b, c, d, ⟨⟩⟩ := R
  cases k with
  | false => exact ⟨(by show (-1 : Int) ≤ -1; decide), (by show (-1 : Int) ≤ 2000000000; decide), (fun h => by cases h), (fun _ => rfl)⟩
  | true =>
    have := waitF_r h
    exact ⟨(by show (-1 : Int) ≤ waitF (true, (a, (b, (c, (d, ()))))); omega), (by show waitF (true, (a, (b, (c, (d, ()))))) ≤ 2000000000; omega), (fun _ => ⟨rfl, this.1⟩), (fun h => by cases h)⟩
theorem filt_cons {q : Snt → Bool} (x : Snt) (r : List Snt) : (x :: r).filter q = (match q x with | true => [x] | false => []) ++ r.filter q := by
  rw [List.filter_cons]
  cases q x <;> rfl
section
variable (now a : Int) (S : List Snt) (R : Rt) (q : Int) (Q : Rt) (A : List Int)
theorem lost_flag {x : Snt} (hR : goodRB R = true) (ha : -1 ≤ a ∧ a ≤ 4611686018427387903) (hn : TickN now) {β : Type} (f : Bool → β) :
    EvP (fun N => sel (decide (x.1 < a)) (sel (decide (x.1 ≤ IntKind.i64.wrap (a - 3))) (some (f true)) (sel (decide (0 ≤ waitW R)) (some (f (decide (x.2.1 ≤ IntKind.i64.wrap (now - waitW R))))) (some (f false)))) (some (f false))) (· = f (lostF a R now x)) := by
  obtain ⟨w1, w2, w3, w4⟩ := waitW_r hR
  obtain ⟨n1, n2⟩ := hn
  rw [i64w (n := a - 3) (by omega) (by omega), i64w (n := now - waitW R) (by omega) (by omega)]
  unfold lostF
  refine EvP.ite (fun h1 => EvP.ite (fun h2 => EvP.some ?_) (fun h2 => EvP.ite (fun h3 => EvP.some ?_) (fun h3 => EvP.some ?_))) (fun h1 => EvP.some ?_)
  · rw [decide_eq_true h1, decide_eq_true h2]; rfl
  · rw [decide_eq_true h1, decide_eq_false h2]
    cases hk : R.1 with
    | true => rw [(w3 hk).1]; rfl
    | false => have := w4 hk; omega
  · rw [decide_eq_true h1, decide_eq_false h2]
    cases hk : R.1 with
    | true => have := (w3 hk).2; omega
    | false => rfl
  · rw [decide_eq_false h1]; rfl
theorem lost_l_s (hR : goodRB R = true) (ha : -1 ≤ a ∧ a ≤ 4611686018427387903) (hn : TickN now) : ∀ (r l P : List Snt) (lo : List Int) (ke : List Snt), P = l ++ r → P.length ≤ 1000 → lo.length ≤ l.length → ke.length ≤ l.length →
    EvP (fun N => spec_TakeAck.l1 N now (waitW R) (P.length : Int) (l.length : Int) a S R.1 R.2.1 R.2.2.1 R.2.2.2.1 R.2.2.2.2.1 q Q.1 Q.2.1 Q.2.2.1 Q.2.2.2.1 Q.2.2.2.2.1 A P lo ke)
      (· = (((), ((), ((), ((), ((), ()))))), (((a, (S, R)) : Sp), (((q, ((), Q)) : Us), (A, (P, (lo ++ (r.filter (lostF a R now)).map (·.1), (ke ++ r.filter (fun x => !lostF a R now x), ())))))))) := by
  intro r
  induction r with
  | nil =>
    intro l P lo ke e hP h1 h2
    rw [List.append_nil] at e
    subst e
    refine EvP.step (fun N => spec_TakeAck.l1.eq N _ _ _ _ _ _ _ _ _ _ _ _ _ _ _ _ _ _ _ _ _) (EvP.neg (by omega) (EvP.some ?_))
    simp only [List.filter_nil, List.map_nil, List.append_nil]
  | cons x r ih =>
    intro l P lo ke e hP h1 h2
    have hlen : P.length = l.length + (r.length + 1) := by rw [e, List.length_append, List.length_cons]
    refine EvP.step (fun N => spec_TakeAck.l1.eq N _ _ _ _ _ _ _ _ _ _ _ _ _ _ _ _ _ _ _ _ _) (EvP.pos (by omega) ?_)
    have hx : rdS SSh P (Int.toNat (l.length : Int)) = x := by rw [e]; exact rdA SSh l x r
    have hw2 : IntKind.i64.wrap ((l.length : Int) + 1) = (((l ++ [x]).length : Nat) : Int) := by rw [i64w (by omega) (by omega), List.length_append]; rfl
    simp only [hx, hw2]
    have el : (l ++ [x]).length = l.length + 1 := by rw [List.length_append]; rfl
    refine EvP.to (a := (((), ((), ((), ((), ((), ((), ())))))), (((a, (S, R)) : Sp), (((q, ((), Q)) : Us), (A, (P, ((match lostF a R now x with | true => lo ++ [x.1] | false => lo), ((match lostF a R now x with | true => ke | false => ke ++ [x]), ())))))))) ?_ ?_
    · refine EvP.chk2 (by omega) (by omega) (EvP.to (a := (((), ((), ((), ((), ((), ((), ((), (lostF a R now x, ())))))))), (((a, (S, R)) : Sp), (((q, ((), Q)) : Us), (A, (P, (lo, (ke, ((x.1, (x.2.1, (x.2.2, ()))), ()))))))))) ?_ ?_)
      · exact lost_flag now a R (x := x) hR ha hn (fun b => (((), ((), ((), ((), ((), ((), ((), (b, ())))))))), (((a, (S, R)) : Sp), (((q, ((), Q)) : Us), (A, (P, (lo, (ke, ((x.1, (x.2.1, (x.2.2, ()))), ())))))))))
      · cases hb : lostF a R now x with
        | true => exact EvP.yes rfl (EvP.chk1 (by unfold most; dsimp only; omega) (EvP.some rfl))
        | false => exact EvP.no rfl (EvP.chk1 (by unfold most; dsimp only; omega) (EvP.some rfl))
    · have hi := ih (l ++ [x]) P (match lostF a R now x with | true => lo ++ [x.1] | false => lo) (match lostF a R now x with | true => ke | false => ke ++ [x]) (by rw [e, List.append_assoc]; rfl) hP
        (by cases lostF a R now x <;> simp <;> omega) (by cases lostF a R now x <;> simp <;> omega)
      refine EvP.eq hi ?_
      rw [filt_cons, filt_cons]
      cases lostF a R now x <;> simp
end
section
variable (o : List (Int × Int)) (now delay a : Int) (S : List Snt) (q : Int) (Q : Rt)
abbrev topR (o : List (Int × Int)) : Int := (rdS RSh o 0).2
theorem ack_l_s (ho : 0 < o.length) (ho2 : o.length ≤ 1000) (hn : TickN now) (hd : TickN delay) : ∀ (r l : List Snt) (R : Rt) (A : List Int) (le : List Snt), S = l ++ r → S.length ≤ 1000 → A.length ≤ l.length → le.length ≤ l.length → goodRB R = true → (∀ x ∈ r, 0 ≤ x.2.1 ∧ x.2.1 ≤ now) →
    EvP (fun N => spec_TakeAck.l0 N o now delay S (S.length : Int) (l.length : Int) a S R.1 R.2.1 R.2.2.1 R.2.2.2.1 R.2.2.2.2.1 q Q.1 Q.2.1 Q.2.2.1 Q.2.2.2.1 Q.2.2.2.2.1 A le)
      (· = (((), ((), ((), ((), ())))), (((a, (S, foldS o (topR o) now delay R r)) : Sp), (((q, ((), Q)) : Us), (A ++ ackedL (hasB o) r, (le ++ leftL (hasB o) r, ())))))) := by
  intro r
  induction r with
  | nil =>
    intro l R A le e hP h1 h2 hR hx
    rw [List.append_nil] at e
    subst e
    refine EvP.step (fun N => spec_TakeAck.l0.eq N _ _ _ _ _ _ _ _ _ _ _ _ _ _ _ _ _ _ _ _ _) (EvP.neg (by omega) (EvP.some ?_))
    simp only [ackedL, leftL, foldS, List.filter_nil, List.map_nil, List.append_nil]
  | cons x r ih =>
    intro l R A le e hP h1 h2 hR hxs
    have hlen : S.length = l.length + (r.length + 1) := by rw [e, List.length_append, List.length_cons]
    refine EvP.step (fun N => spec_TakeAck.l0.eq N _ _ _ _ _ _ _ _ _ _ _ _ _ _ _ _ _ _ _ _ _) (EvP.pos (by omega) ?_)
    have hx : rdS SSh S (Int.toNat (l.length : Int)) = x := by rw [e]; exact rdA SSh l x r
    have hw2 : IntKind.i64.wrap ((l.length : Int) + 1) = (((l ++ [x]).length : Nat) : Int) := by rw [i64w (by omega) (by omega), List.length_append]; rfl
    obtain ⟨t1, t2⟩ := hxs x (List.mem_cons_self ..)
    obtain ⟨n1, n2⟩ := hn
    have hw3 : IntKind.i64.wrap (now - x.2.1) = now - x.2.1 := i64w (by omega) (by omega)
    simp only [hx, hw2]
    have el : (l ++ [x]).length = l.length + 1 := by rw [List.length_append]; rfl
    have hgood : goodRB (match hitB o (topR o) x with | true => sampF R (now - x.2.1) delay | false => R) = true := by
      cases hitB o (topR o) x with
      | true => exact sampF_good hR ⟨by omega, by omega⟩ hd.1
      | false => exact hR
    refine EvP.to (a := (((), ((), ((), ((), ())))), (((a, (S, (match hitB o (topR o) x with | true => sampF R (now - x.2.1) delay | false => R))) : Sp), (((q, ((), Q)) : Us), ((match hasB o x.1 with | true => A ++ [x.1] | false => A), ((match hasB o x.1 with | true => le | false => le ++ [x]), ())))))) ?_ ?_
    · refine EvP.chk2 (by omega) (by omega) (EvP.to (has_s o x.1 (by omega)) ?_)
      unfold hitB
      cases hb : hasB o x.1 with
      | false => exact EvP.yes rfl (EvP.chk1 (by unfold most; omega) (EvP.some rfl))
      | true =>
        refine EvP.no rfl (EvP.chk1 (by unfold most; omega) (EvP.chk1 (by omega) (EvP.ite (fun h => ?_) (fun h => EvP.some ?_))))
        · rw [decide_eq_true (show x.1 = topR o from h)]
          simp only [hw3]
          refine EvP.to (samp_s (k := R.1) (a := R.2.1) (b := R.2.2.1) (c := R.2.2.2.1) (d := R.2.2.2.2.1) hR ⟨by omega, by omega⟩ hd) (EvP.some rfl)
        · rw [decide_eq_false (show ¬ x.1 = topR o from h)]
          rfl
    · have hi := ih (l ++ [x]) (match hitB o (topR o) x with | true => sampF R (now - x.2.1) delay | false => R) (match hasB o x.1 with | true => A ++ [x.1] | false => A) (match hasB o x.1 with | true => le | false => le ++ [x]) (by rw [e, List.append_assoc]; rfl) hP
        (by cases hasB o x.1 <;> simp <;> omega) (by cases hasB o x.1 <;> simp <;> omega) hgood (fun y hy => hxs y (List.mem_cons_of_mem _ hy))
      refine EvP.eq hi ?_
      unfold ackedL leftL
      rw [filt_cons, filt_cons]
      show _ = (_, (((a, (S, foldS o (topR o) now delay _ r)) : Sp), _))
      cases hasB o x.1 <;> (simp; cases hitB o (topR o) x <;> rfl)
end
end Go.Proofs.Ytbfkfhadcmpndaa.CFnAcked
