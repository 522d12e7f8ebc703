/- What an acknowledgement does: the reference's function as a whole. -/
import Derived.Test.YtbfkfhadcmpndaaQAckTFnAcked
set_option linter.unusedVariables false
set_option linter.unusedSimpArgs false
namespace Go.Proofs.Ytbfkfhadcmpndaa.CFnAcked
open Go Go.Proofs Go.Proofs.YtbfkfhadcmpndaaPM Go.Proofs.Ytbfkfhadcmpndaa.Q Go.Proofs.Ytbfkfhadcmpndaa.GFnAcked

abbrev AckO := (Us × (Unit × (Unit × (Bool × Unit)))) × (List Snt × (List Int × (List Int × Unit)))
def ackBad : AckO := (((0, ((), (false, (0, (0, (0, (0, ()))))))), ((), ((), (false, ())))), ([], ([], ([], ()))))
def ackR (a : Int) (S : List Snt) (R : Rt) (o : List (Int × Int)) (now delay : Int) : Rt := foldS o (topR o) now delay R S
def ackG (a : Int) (S : List Snt) (R : Rt) (o : List (Int × Int)) (now delay : Int) : AckO :=
  (((maxF a (topR o), ((), ackR a S R o now delay)), ((), ((), (true, ())))),
    (keepL (hasB o) (lostF (maxF a (topR o)) (ackR a S R o now delay) now) S, (ackedL (hasB o) S, (lostL (hasB o) (lostF (maxF a (topR o)) (ackR a S R o now delay) now) S, ()))))
def gateB (a : Int) (S : List Snt) (R : Rt) (o : List (Int × Int)) (now delay : Int) : Bool :=
  goodSB a S R && (goodLB o && (decide (0 < o.length) && (decide (TickN now) && (decide (TickN delay) && decide (lastT 0 S ≤ now)))))
def ackF (a : Int) (S : List Snt) (R : Rt) (o : List (Int × Int)) (now delay : Int) : AckO := match gateB a S R o now delay with | true => ackG a S R o now delay | false => ackBad
theorem goodSB_p {a : Int} {S : List Snt} {R : Rt} (h : goodSB a S R = true) : sentB (-1) 0 S = true ∧ (-1 ≤ a ∧ a ≤ 4611686018427387903) ∧ (S.length : Int) ≤ 60 ∧ goodRB R = true := by
  unfold goodSB at h
  simp only [Bool.and_eq_true, decide_eq_true_eq] at h
  exact h
theorem gateB_p {a : Int} {S : List Snt} {R : Rt} {o : List (Int × Int)} {now delay : Int} (h : gateB a S R o now delay = true) :
    goodSB a S R = true ∧ goodLB o = true ∧ 0 < o.length ∧ TickN now ∧ TickN delay ∧ lastT 0 S ≤ now := by
  unfold gateB at h
  simp only [Bool.and_eq_true, decide_eq_true_eq] at h
  exact h
theorem gateB_mk {a : Int} {S : List Snt} {R : Rt} {o : List (Int × Int)} {now delay : Int} (h : goodSB a S R = true) (h1 : goodLB o = true) (h2 : 0 < o.length) (h3 : TickN now) (h4 : TickN delay) (h5 : lastT 0 S ≤ now) : gateB a S R o now delay = true := by
  unfold gateB
  simp only [Bool.and_eq_true, decide_eq_true_eq]
  exact ⟨h, h1, h2, h3, h4, h5⟩
theorem topR_var {o : List (Int × Int)} (h : goodLB o = true) (h1 : 0 < o.length) : VarN (topR o) ∧ o.length ≤ 20 := by
  unfold goodLB at h
  rw [Bool.and_eq_true, decide_eq_true_eq] at h
  cases o with
  | nil => cases h1
  | cons x r =>
    have h2 := h.2
    unfold rngB at h2
    rw [Bool.and_eq_true, decide_eq_true_eq] at h2
    exact ⟨h2.1.2.2.1, by have := h.1; omega⟩
theorem maxF_r {a b : Int} (h : -1 ≤ a ∧ a ≤ 4611686018427387903) (k : VarN b) : -1 ≤ maxF a b ∧ maxF a b ≤ 4611686018427387903 := by
  obtain ⟨k1, k2⟩ := k
  unfold maxF
  split <;> omega
theorem last_s (a : Int) (S : List Snt) (k : Bool) (b c d e : Int) (h : (S.length : Int) ≤ 4611686018427387903) : EvP (fun N => spec_l12Last N a S k b c d e) (fun z => z.1.1.1 = endN (-1) S ∧ z.1.1.2.1 = lastT 0 S) := by
  refine EvP.of (fun N => spec_l12Last.eq N _ _ _ _ _ _ _) (EvP.ite (fun h1 => EvP.chk2 (by rw [i64w (by omega) (by omega)]; omega) (by rw [i64w (by omega) (by omega)]; omega) (EvP.some ?_)) (fun h1 => EvP.some ?_))
  · rw [i64w (by omega) (by omega)]
    have := rdL (l := S) (by omega) []
    rw [List.append_nil] at this
    exact this
  · have : S = [] := List.eq_nil_of_length_eq_zero (by omega)
    subst this
    exact ⟨rfl, rfl⟩
abbrev U0 : Us := (0, ((), (false, (0, (0, (0, (0, ())))))))
abbrev AX := (Unit × (Unit × (Bool × Unit))) × (Sp × (Us × Unit))
theorem ax {b : Bool} {P : Prop} (f : Bool → AX) (h : b = true) : EvP (fun _ => some (f true)) (· = f b) := EvP.some (by rw [h])
theorem take_s (a : Int) (S : List Snt) (R : Rt) (o : List (Int × Int)) (now delay : Int) (hS : S.length ≤ 1000) (ho : o.length ≤ 1000) :
    EvP (fun N => spec_TakeAck N a S R.1 R.2.1 R.2.2.1 R.2.2.2.1 R.2.2.2.2.1 o now delay) (· = ackF a S R o now delay) := by
  refine EvP.of (fun N => spec_TakeAck.eq N _ _ _ _ _ _ _ _ _ _) ?_
  refine EvP.to (a := ((((), ((), (!gateB a S R o now delay, ()))), (((a, (S, R)) : Sp), ((U0 : Us), ()))) : AX)) ?_ ?_
  · have bad : ¬(gateB a S R o now delay = true) → EvP (fun _ => some ((((), ((), (true, ()))), (((a, (S, R)) : Sp), ((U0 : Us), ()))) : AX)) (· = ((((), ((), (!gateB a S R o now delay, ()))), (((a, (S, R)) : Sp), ((U0 : Us), ()))) : AX)) := fun h => EvP.some (by rw [Bool.eq_false_iff.2 h]; rfl)
    refine EvP.to (space_s a S R.1 R.2.1 R.2.2.1 R.2.2.2.1 R.2.2.2.2.1 (by omega)) ?_
    cases h1 : goodSB a S R with
    | false => exact EvP.yes rfl (bad fun h => by have := (gateB_p h).1; rw [h1] at this; cases this)
    | true =>
      refine EvP.no rfl (EvP.to (goodL_s o) ?_)
      cases h2 : goodLB o with
      | false => exact EvP.yes rfl (bad fun h => by have := (gateB_p h).2.1; rw [h2] at this; cases this)
      | true =>
        refine EvP.no rfl (EvP.ite (fun h3 => bad fun h => by have := (gateB_p h).2.2.1; omega) (fun h3 => EvP.to (tick_s now) (EvP.nite (fun h4 => bad fun h => h4 (gateB_p h).2.2.2.1) (fun h4 => EvP.andK (last_s a S R.1 R.2.1 R.2.2.1 R.2.2.2.1 R.2.2.2.2.1 (by omega)) fun z hz => ?_))))
        obtain ⟨z1, z2⟩ := hz
        rw [z2]
        refine EvP.ite (fun h5 => bad fun h => by have := (gateB_p h).2.2.2.2.2; omega) (fun h5 => EvP.to (tick_s delay) (EvP.some ?_))
        have : gateB a S R o now delay = decide (TickN delay) := by
          unfold gateB
          rw [h1, h2, decide_eq_true (show 0 < o.length by omega), decide_eq_true h4, decide_eq_true (show lastT 0 S ≤ now by omega), Bool.and_true]
          rfl
        rw [this]
  · unfold ackF
    cases hg : gateB a S R o now delay with
    | false => exact EvP.yes rfl (EvP.some rfl)
    | true =>
      obtain ⟨g1, g2, g3, g4, g5, g6⟩ := gateB_p hg
      obtain ⟨s1, s2, s3, s4⟩ := goodSB_p g1
      obtain ⟨v1, v2⟩ := topR_var g2 g3
      have m := maxF_r s2 v1
      refine EvP.no rfl ?_
      refine EvP.to (a := (((), ((), ())), (((maxF a (topR o), (S, R)) : Sp), ((U0 : Us), ())))) ?_ ?_
      · refine EvP.chk1 (by omega) (EvP.ite (fun h => EvP.chk1 (by omega) (EvP.some ?_)) (fun h => EvP.some ?_))
        · have h : a < topR o := h
          rw [show maxF a (topR o) = topR o from if_pos h]
        · have h : ¬ a < topR o := h
          rw [show maxF a (topR o) = a from if_neg h]
      · have hx : ∀ x ∈ S, 0 ≤ x.2.1 ∧ x.2.1 ≤ now := fun x hx => by have h := sentB_mem S _ _ s1 hx; exact ⟨h.1.2.1.1, by have := h.2; omega⟩
        have l0 := ack_l_s o now delay (maxF a (topR o)) S 0 (false, (0, (0, (0, (0, ()))))) g3 (by omega) g4 g5 S [] R [] [] rfl (by omega) (by simp) (by simp) s4 hx
        refine EvP.to l0 ?_
        have hR := foldS_good (l := o) (T := topR o) g5.1 g4.2 S R s4 hx
        show EvP _ (· = ackG a S R o now delay)
        unfold ackG ackR
        generalize foldS o (topR o) now delay R S = R2 at *
        dsimp only
        refine EvP.to (a := ((waitW R2, ()), ())) (EvP.eq (wait_s (k := R2.1) (a := R2.2.1) (b := R2.2.2.1) (c := R2.2.2.2.1) (d := R2.2.2.2.2.1) hR) ?_) ?_
        · obtain ⟨k, a, b, c, d, ⟨⟩⟩ := R2
          cases k <;> rfl
        · have hle : (leftL (hasB o) S).length ≤ 1000 := Nat.le_trans (List.length_filter_le _ _) hS
          exact EvP.to (lost_l_s now (maxF a (topR o)) S R2 0 (false, (0, (0, (0, (0, ()))))) (ackedL (hasB o) S) hR m g4 (leftL (hasB o) S) [] (leftL (hasB o) S) [] [] rfl hle (by simp) (by simp)) (EvP.some rfl)
end Go.Proofs.Ytbfkfhadcmpndaa.CFnAcked
