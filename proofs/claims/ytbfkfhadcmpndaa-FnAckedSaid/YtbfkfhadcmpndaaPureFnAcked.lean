/- FnAcked: every packet that was sent is acknowledged, lost or left, and just one of these. -/
import Derived.Test.YtbfkfhadcmpndaaQAckEFnAcked
set_option linter.unusedVariables false
set_option linter.unusedSectionVars false
set_option linter.unusedSimpArgs false
namespace Go.Proofs.Ytbfkfhadcmpndaa.Pure
open Go Go.Proofs Go.Proofs.YtbfkfhadcmpndaaPM Go.Proofs.Ytbfkfhadcmpndaa.Q Go.Proofs.Ytbfkfhadcmpndaa.CFnAcked Go.Proofs.Ytbfkfhadcmpndaa.GFnAcked

theorem sameInts_l (a : List Int) (h : a.length ≤ 1000) : ∀ (n i : Nat), i + n = a.length → EvP (fun N => laws_sameInts.l0 N a a (a.length : Int) (i : Int)) (· = .inr ((), ())) := by
  intro n
  induction n with
  | zero =>
    intro i hi
    exact EvP.step (fun N => laws_sameInts.l0.eq N _ _ _ _) (EvP.neg (by omega) (EvP.some rfl))
  | succ n ih =>
    intro i hi
    refine EvP.step (fun N => laws_sameInts.l0.eq N _ _ _ _) (EvP.pos (by omega) (EvP.chk2 (by omega) (by omega) (EvP.chk2 (by omega) (by omega) (EvP.nneg rfl ?_))))
    rw [show IntKind.i64.wrap ((i : Int) + 1) = ((i + 1 : Nat) : Int) by rw [i64w (by omega) (by omega)]; omega]
    exact ih (i + 1) (by omega)
theorem sameInts_ok (a : List Int) (h : a.length ≤ 1000) : EvP (fun N => laws_sameInts N a a) (· = ((true, ()), ())) :=
  EvP.of (fun N => laws_sameInts.eq N _ _) (EvP.nneg rfl (EvP.to (sameInts_l a h a.length 0 (by omega)) (EvP.inr (EvP.some rfl))))
theorem hasNumber_s (o : List (Int × Int)) (n : Int) (h : goodLB o = true) (ho : o.length ≤ 1000) : EvP (fun N => spec_HasNumber N o n) (· = ((hasB o n, (true, ())), ())) := by
  refine EvP.of (fun N => spec_HasNumber.eq N _ _) (EvP.to (goodL_s o) (EvP.no (by rw [h]; rfl) (EvP.to (has_s o n (by omega)) (EvP.some rfl))))

abbrev Cx (β : Type) := List Snt × (List (Int × Int) × (Us × (List Snt × (List Int × (List Int × (Us × (List Snt × (List Int × (List Int × (Us × β))))))))))
section
variable (d e t0 i0 : Int) (S : List Snt) (o : List (Int × Int)) (b : Int) (R : Rt) (K : List Snt) (A Lo : List Int) (b1 : Int) (R1 : Rt) (K2 : List Snt) (A2 L2 : List Int) (b2 : Int) (R2 : Rt) (x : Snt)
abbrev cx {β : Type} (z : β) : Cx β := (S, (o, ((b, ((), R)), (K, (A, (Lo, ((b1, ((), R1)), (K2, (A2, (L2, ((b2, ((), R2)), z)))))))))))
abbrev X3 := (Int × (Int × (Int × Unit))) × Unit
abbrev x3 (x : Snt) : X3 := ((x.1, (x.2.1, (x.2.2, ()))), ())
abbrev UL := Unit × (Unit × (Unit × (Unit × (Unit × (Int × (Unit × Unit))))))
abbrev UM := Unit × (Unit × (Unit × (Unit × (Unit × (Int × (Unit × (Unit × Unit)))))))
theorem cnt {α : Type} [BEq α] [LawfulBEq α] (y x : α) (r : List α) : (((y :: r).count x : Nat) : Int) = (match y == x with | true => 1 | false => 0) + (r.count x : Int) := by
  rw [List.count_cons]
  cases y == x <;> simp <;> omega
theorem acked_l (hg : goodLB o = true) (ho : o.length ≤ 1000) (hA : A.length ≤ 1000) (hh : ∀ n ∈ A, hasB o n = true) : ∀ (r l : List Int) (m : Int), A = l ++ r → 0 ≤ m → m ≤ l.length →
    EvP (fun N => laws_FnAcked.l1 N d e t0 i0 (A.length : Int) m (l.length : Int) S o b R.1 R.2.1 R.2.2.1 R.2.2.2.1 R.2.2.2.2.1 K A Lo b1 R1.1 R1.2.1 R1.2.2.1 R1.2.2.2.1 R1.2.2.2.2.1 K2 A2 L2 b2 R2.1 R2.2.1 R2.2.2.1 R2.2.2.2.1 R2.2.2.2.2.1 x.1 x.2.1 x.2.2)
      (· = .inr (((((), ((), ((), ((), ((), (m + (r.count x.1 : Int), ((), ()))))))) : UL), cx S o b R K A Lo b1 R1 K2 A2 L2 b2 R2 (x3 x)))) := by
  intro r
  induction r with
  | nil =>
    intro l m e1 h1 h2
    rw [List.append_nil] at e1
    subst e1
    refine EvP.step (fun N => laws_FnAcked.l1.eq N _ _ _ _ _ _ _ _ _ _ _ _ _ _ _ _ _ _ _ _ _ _ _ _ _ _ _ _ _ _ _ _ _ _ _ _) (EvP.neg (by omega) (EvP.some ?_))
    rw [List.count_nil, Int.natCast_zero, Int.add_zero]
  | cons y r ih =>
    intro l m e1 h1 h2
    have hlen : A.length = l.length + (r.length + 1) := by rw [e1, List.length_append, List.length_cons]
    refine EvP.step (fun N => laws_FnAcked.l1.eq N _ _ _ _ _ _ _ _ _ _ _ _ _ _ _ _ _ _ _ _ _ _ _ _ _ _ _ _ _ _ _ _ _ _ _ _) (EvP.pos (by omega) ?_)
    have hx : A.getD (Int.toNat (l.length : Int)) 0 = y := by rw [e1]; exact rdA (.int .i64) l y r
    have hw2 : IntKind.i64.wrap ((l.length : Int) + 1) = (((l ++ [y]).length : Nat) : Int) := by rw [i64w (by omega) (by omega), List.length_append]; rfl
    have el : (l ++ [y]).length = l.length + 1 := by rw [List.length_append]; rfl
    simp only [hx, hw2]
    have hhas := hh y (by rw [e1]; simp)
    refine EvP.to (a := .inr (((((), ((), ((), ((), ((), (m + (match y == x.1 with | true => 1 | false => 0), ((), ((), ())))))))) : UM), cx S o b R K A Lo b1 R1 K2 A2 L2 b2 R2 (x3 x)))) ?_ (EvP.inr ?_)
    · refine EvP.chk2 (by omega) (by omega) (EvP.ite (fun h => EvP.to (hasNumber_s o y hg ho) (EvP.no (by rw [hhas]; rfl) (EvP.some ?_))) (fun h => EvP.some ?_))
      · rw [show (y == x.1) = true by simpa using h, i64w (by omega) (by omega)]
      · rw [show (y == x.1) = false by simpa using h, Int.add_zero]
    · have hi := ih (l ++ [y]) (m + (match y == x.1 with | true => 1 | false => 0)) (by rw [e1, List.append_assoc]; rfl) (by cases y == x.1 <;> dsimp only <;> omega) (by cases y == x.1 <;> dsimp only <;> omega)
      refine EvP.eq hi ?_
      rw [cnt, Int.add_assoc]
theorem lost_l (hA : Lo.length ≤ 1000) (hh : ∀ n ∈ Lo, n < b1) : ∀ (r l : List Int) (m : Int), Lo = l ++ r → 0 ≤ m → m ≤ 1000 + l.length →
    EvP (fun N => laws_FnAcked.l2 N d e t0 i0 (Lo.length : Int) m (l.length : Int) S o b R.1 R.2.1 R.2.2.1 R.2.2.2.1 R.2.2.2.2.1 K A Lo b1 R1.1 R1.2.1 R1.2.2.1 R1.2.2.2.1 R1.2.2.2.2.1 K2 A2 L2 b2 R2.1 R2.2.1 R2.2.2.1 R2.2.2.2.1 R2.2.2.2.2.1 x.1 x.2.1 x.2.2)
      (· = .inr (((((), ((), ((), ((), ((), (m + (r.count x.1 : Int), ((), ()))))))) : UL), cx S o b R K A Lo b1 R1 K2 A2 L2 b2 R2 (x3 x)))) := by
  intro r
  induction r with
  | nil =>
    intro l m e1 h1 h2
    rw [List.append_nil] at e1
    subst e1
    refine EvP.step (fun N => laws_FnAcked.l2.eq N _ _ _ _ _ _ _ _ _ _ _ _ _ _ _ _ _ _ _ _ _ _ _ _ _ _ _ _ _ _ _ _ _ _ _ _) (EvP.neg (by omega) (EvP.some ?_))
    rw [List.count_nil, Int.natCast_zero, Int.add_zero]
  | cons y r ih =>
    intro l m e1 h1 h2
    have hlen : Lo.length = l.length + (r.length + 1) := by rw [e1, List.length_append, List.length_cons]
    refine EvP.step (fun N => laws_FnAcked.l2.eq N _ _ _ _ _ _ _ _ _ _ _ _ _ _ _ _ _ _ _ _ _ _ _ _ _ _ _ _ _ _ _ _ _ _ _ _) (EvP.pos (by omega) ?_)
    have hx : Lo.getD (Int.toNat (l.length : Int)) 0 = y := by rw [e1]; exact rdA (.int .i64) l y r
    have hw2 : IntKind.i64.wrap ((l.length : Int) + 1) = (((l ++ [y]).length : Nat) : Int) := by rw [i64w (by omega) (by omega), List.length_append]; rfl
    have el : (l ++ [y]).length = l.length + 1 := by rw [List.length_append]; rfl
    simp only [hx, hw2]
    have hlt := hh y (by rw [e1]; simp)
    refine EvP.to (a := .inr (((((), ((), ((), ((), ((), (m + (match y == x.1 with | true => 1 | false => 0), ((), ((), ())))))))) : UM), cx S o b R K A Lo b1 R1 K2 A2 L2 b2 R2 (x3 x)))) ?_ (EvP.inr ?_)
    · refine EvP.chk2 (by omega) (by omega) (EvP.ite (fun h => EvP.neg (by omega) (EvP.some ?_)) (fun h => EvP.some ?_))
      · rw [show (y == x.1) = true by simpa using h, i64w (by omega) (by omega)]
      · rw [show (y == x.1) = false by simpa using h, Int.add_zero]
    · have hi := ih (l ++ [y]) (m + (match y == x.1 with | true => 1 | false => 0)) (by rw [e1, List.append_assoc]; rfl) (by cases y == x.1 <;> dsimp only <;> omega) (by cases y == x.1 <;> dsimp only <;> omega)
      refine EvP.eq hi ?_
      rw [cnt, Int.add_assoc]
abbrev UK := Unit × (Unit × (Unit × (Unit × (Int × (Unit × Unit)))))
theorem keep_l (hA : K.length ≤ 1000) : ∀ (r l : List Snt) (m : Int), K = l ++ r → 0 ≤ m → m ≤ 2000 + l.length →
    EvP (fun N => laws_FnAcked.l3 N d e t0 i0 (K.length : Int) m (l.length : Int) S o b R.1 R.2.1 R.2.2.1 R.2.2.2.1 R.2.2.2.2.1 K A Lo b1 R1.1 R1.2.1 R1.2.2.1 R1.2.2.2.1 R1.2.2.2.2.1 K2 A2 L2 b2 R2.1 R2.2.1 R2.2.2.1 R2.2.2.2.1 R2.2.2.2.2.1 x.1 x.2.1 x.2.2)
      (· = (((((), ((), ((), ((), (m + (r.count x : Int), ((), ())))))) : UK), cx S o b R K A Lo b1 R1 K2 A2 L2 b2 R2 (x3 x)))) := by
  intro r
  induction r with
  | nil =>
    intro l m e1 h1 h2
    rw [List.append_nil] at e1
    subst e1
    refine EvP.step (fun N => laws_FnAcked.l3.eq N _ _ _ _ _ _ _ _ _ _ _ _ _ _ _ _ _ _ _ _ _ _ _ _ _ _ _ _ _ _ _ _ _ _ _ _) (EvP.neg (by omega) (EvP.some ?_))
    rw [List.count_nil, Int.natCast_zero, Int.add_zero]
  | cons y r ih =>
    intro l m e1 h1 h2
    have hlen : K.length = l.length + (r.length + 1) := by rw [e1, List.length_append, List.length_cons]
    refine EvP.step (fun N => laws_FnAcked.l3.eq N _ _ _ _ _ _ _ _ _ _ _ _ _ _ _ _ _ _ _ _ _ _ _ _ _ _ _ _ _ _ _ _ _ _ _ _) (EvP.pos (by omega) ?_)
    have hx : rdS SSh K (Int.toNat (l.length : Int)) = y := by rw [e1]; exact rdA SSh l y r
    have hw2 : IntKind.i64.wrap ((l.length : Int) + 1) = (((l ++ [y]).length : Nat) : Int) := by rw [i64w (by omega) (by omega), List.length_append]; rfl
    have el : (l ++ [y]).length = l.length + 1 := by rw [List.length_append]; rfl
    simp only [hx, hw2]
    have hq : (decide (y.1 = x.1) && (decide (y.2.1 = x.2.1) && decide (y.2.2 = x.2.2))) = (y == x) := by
      obtain ⟨y1, y2, y3⟩ := y
      obtain ⟨z1, z2, z3⟩ := x
      rfl
    refine EvP.to (a := ((((((), ((), ((), ((), ((), (m + (match y == x with | true => 1 | false => 0), ((), ((), ())))))))) : UM), cx S o b R K A Lo b1 R1 K2 A2 L2 b2 R2 (x3 x))))) ?_ ?_
    · refine EvP.chk2 (by omega) (by omega) (EvP.sel (fun h => EvP.some ?_) (fun h => EvP.some ?_))
      · rw [show (y == x) = true by rw [← hq]; exact h, i64w (by omega) (by omega)]
      · rw [show (y == x) = false by rw [← hq]; exact h, Int.add_zero]
    · have hi := ih (l ++ [y]) (m + (match y == x with | true => 1 | false => 0)) (by rw [e1, List.append_assoc]; rfl) (by cases y == x <;> dsimp only <;> omega) (by cases y == x <;> dsimp only <;> omega)
      refine EvP.eq hi ?_
      rw [cnt, Int.add_assoc]
theorem sent_l (hg : goodLB o = true) (ho : o.length ≤ 1000) (hA : A.length ≤ 1000) (hh : ∀ n ∈ A, hasB o n = true) (hL : Lo.length ≤ 1000) (hh2 : ∀ n ∈ Lo, n < b1) (hK : K.length ≤ 1000) (hS : S.length ≤ 1000)
    (h1 : ∀ x ∈ S, A.count x.1 + Lo.count x.1 + K.count x = 1) : ∀ (r l : List Snt), S = l ++ r →
    EvP (fun N => laws_FnAcked.l0 N d e (S.length : Int) (l.length : Int) S o b R.1 R.2.1 R.2.2.1 R.2.2.2.1 R.2.2.2.2.1 K A Lo b1 R1.1 R1.2.1 R1.2.2.1 R1.2.2.2.1 R1.2.2.2.2.1 K2 A2 L2 b2 R2.1 R2.2.1 R2.2.2.1 R2.2.2.2.1 R2.2.2.2.2.1)
      (· = .inr ((((), ((), ())), cx S o b R K A Lo b1 R1 K2 A2 L2 b2 R2 ()))) := by
  intro r
  induction r with
  | nil =>
    intro l e1
    rw [List.append_nil] at e1
    subst e1
    exact EvP.step (fun N => laws_FnAcked.l0.eq N _ _ _ _ _ _ _ _ _ _ _ _ _ _ _ _ _ _ _ _ _ _ _ _ _ _ _ _ _ _) (EvP.neg (by omega) (EvP.some rfl))
  | cons y r ih =>
    intro l e1
    have hlen : S.length = l.length + (r.length + 1) := by rw [e1, List.length_append, List.length_cons]
    refine EvP.step (fun N => laws_FnAcked.l0.eq N _ _ _ _ _ _ _ _ _ _ _ _ _ _ _ _ _ _ _ _ _ _ _ _ _ _ _ _ _ _) (EvP.pos (by omega) (EvP.chk2 (by omega) (by omega) ?_))
    have hx : rdS SSh S (Int.toNat (l.length : Int)) = y := by rw [e1]; exact rdA SSh l y r
    have hw2 : IntKind.i64.wrap ((l.length : Int) + 1) = (((l ++ [y]).length : Nat) : Int) := by rw [i64w (by omega) (by omega), List.length_append]; rfl
    simp only [hx, hw2]
    have hc := h1 y (by rw [e1]; simp)
    have z1 := acked_l d e (S.length : Int) (l.length : Int) S o b R K A Lo b1 R1 K2 A2 L2 b2 R2 y hg ho hA hh A [] 0 rfl (by omega) (by simp)
    have z2 := lost_l d e (S.length : Int) (l.length : Int) S o b R K A Lo b1 R1 K2 A2 L2 b2 R2 y hL hh2 Lo [] (0 + (A.count y.1 : Int)) rfl (by omega) (by simp; omega)
    have z3 := keep_l d e (S.length : Int) (l.length : Int) S o b R K A Lo b1 R1 K2 A2 L2 b2 R2 y hK K [] (0 + (A.count y.1 : Int) + (Lo.count y.1 : Int)) rfl (by omega) (by simp; omega)
    refine EvP.to z1 (EvP.inr (EvP.to z2 (EvP.inr (EvP.to z3 (EvP.nneg (by dsimp only; omega) ?_)))))
    exact ih (l ++ [y]) (by rw [e1, List.append_assoc]; rfl)
end
theorem again {a : Int} {S : List Snt} {R : Rt} {o : List (Int × Int)} {now delay : Int} (h : gateB a S R o now delay = true) :
    goodSB (maxF a (topR o)) (ackG a S R o now delay).2.1 (ackR a S R o now delay) = true ∧
    ackF (maxF a (topR o)) (ackG a S R o now delay).2.1 (ackR a S R o now delay) o now delay = (((maxF a (topR o), ((), ackR a S R o now delay)), ((), ((), (true, ())))), ((ackG a S R o now delay).2.1, ([], ([], ())))) := by
  obtain ⟨g1, g2, g3, g4, g5, g6⟩ := gateB_p h
  obtain ⟨s1, s2, s3, s4⟩ := goodSB_p g1
  obtain ⟨v1, v2⟩ := topR_var g2 g3
  have m := maxF_r s2 v1
  have hx : ∀ x ∈ S, 0 ≤ x.2.1 ∧ x.2.1 ≤ now := fun x hx => by have h := sentB_mem S _ _ s1 hx; exact ⟨h.1.2.1.1, by have := h.2; omega⟩
  have hR : goodRB (ackR a S R o now delay) = true := foldS_good (l := o) (T := topR o) g5.1 g4.2 S R s4 hx
  generalize hR2 : ackR a S R o now delay = R2 at *
  have hk : (ackG a S R o now delay).2.1 = keepL (hasB o) (lostF (maxF a (topR o)) R2 now) S := by rw [← hR2]; rfl
  rw [hk]
  generalize hlost : lostF (maxF a (topR o)) R2 now = lo at *
  have k1 : sentB (-1) 0 (keepL (hasB o) lo S) = true := sentB_filter _ _ _ _ _ _ (sentB_filter _ _ _ _ _ _ s1 (Int.le_refl _) (Int.le_refl _)) (Int.le_refl _) (Int.le_refl _)
  have k2 : lastT 0 (keepL (hasB o) lo S) ≤ now := Int.le_trans (lastT_filter _ _ _ _ _ (sentB_filter _ _ _ _ _ _ s1 (Int.le_refl _) (Int.le_refl _)) (Int.le_refl _)) (Int.le_trans (lastT_filter _ _ _ _ _ s1 (Int.le_refl _)) g6)
  have k3 : ((keepL (hasB o) lo S).length : Int) ≤ 60 := by
    have := parts_len (hasB o) lo S
    omega
  have k4 : goodSB (maxF a (topR o)) (keepL (hasB o) lo S) R2 = true := by
    unfold goodSB
    simp only [Bool.and_eq_true, decide_eq_true_eq]
    exact ⟨k1, m, k3, hR⟩
  refine ⟨k4, ?_⟩
  have hg := gateB_mk k4 g2 g3 g4 g5 k2
  unfold ackF
  rw [hg]
  have e1 : maxF (maxF a (topR o)) (topR o) = maxF a (topR o) := by unfold maxF; split <;> first | omega | (split <;> omega) | rfl
  have e2 : ackR (maxF a (topR o)) (keepL (hasB o) lo S) R2 o now delay = R2 := foldS_keep _ _ fun x hx => by
    have := (List.mem_filter.1 (fmem hx)).2
    simpa using this
  show ackG _ _ _ _ _ _ = _
  unfold ackG
  rw [e1, e2, hlost, keep_keep, keep_acked, keep_lost]
theorem acked_has {o : List (Int × Int)} {S : List Snt} : ∀ n ∈ ackedL (hasB o) S, hasB o n = true := fun n hn => by
  obtain ⟨x, hx, rfl⟩ := List.mem_map.1 hn
  exact (List.mem_filter.1 hx).2
theorem lost_lt {h : Int → Bool} {a : Int} {R : Rt} {now : Int} {S : List Snt} : ∀ n ∈ lostL h (lostF a R now) S, n < a := fun n hn => by
  obtain ⟨x, hx, rfl⟩ := List.mem_map.1 hn
  have := (List.mem_filter.1 hx).2
  unfold lostF at this
  rw [Bool.and_eq_true] at this
  exact of_decide_eq_true this.1
abbrev UF := Unit × (Unit × (Unit × (Unit × (Unit × (Bool × Unit)))))
theorem FnAcked (a0 : List Int) (h0 : Bytes a0) (s0 : a0.length < 9223372036854775807) : ∃ N, laws_FnAcked N a0 = some ((true, ()), ()) := by
  refine EvP.fin (EvP.of (fun N => laws_FnAcked.eq N _) (EvP.ite (fun _ => EvP.some rfl) (fun hlen => EvP.andK (draw_ok h0) ?_)))
  rintro ⟨⟨⟨a, ⟨⟩, R⟩, ⟨⟩, now, delay, ⟨⟩⟩, S, o, ⟨⟩⟩ ⟨hS, ho⟩
  dsimp only at hS ho
  refine EvP.to (take_i a S R o now delay (by omega) (by omega)) (EvP.to (take_s a S R o now delay (by omega) (by omega)) ?_)
  dsimp only
  cases hg : gateB a S R o now delay with
  | false =>
    have e : ackF a S R o now delay = ackBad := by unfold ackF; rw [hg]
    rw [e]
    refine EvP.to (a := (((((), ((), ((), ((), ((), (false, ())))))) : UF), cx S o a R [] [] [] 0 (false, (0, (0, (0, (0, ()))))) [] [] [] 0 (false, (0, (0, (0, (0, ()))))) ()))) ?_ (EvP.no rfl (EvP.yes rfl (EvP.some rfl)))
    exact EvP.no rfl (EvP.to (sameInts_ok [] (by simp)) (EvP.no rfl (EvP.to (sameInts_ok [] (by simp)) (EvP.some rfl))))
  | true =>
    have e : ackF a S R o now delay = ackG a S R o now delay := by unfold ackF; rw [hg]
    rw [e]
    obtain ⟨k4, ke⟩ := again hg
    obtain ⟨g1, g2, g3, g4, g5, g6⟩ := gateB_p hg
    obtain ⟨s1, s2, s3, s4⟩ := goodSB_p g1
    have hlen2 := parts_len (hasB o) (lostF (maxF a (topR o)) (ackR a S R o now delay) now) S
    have hone := fun p hp => parts_one (hasB o) (lostF (maxF a (topR o)) (ackR a S R o now delay) now) p S (-1) 0 s1 hp
    have hlt := lost_lt (h := hasB o) (a := maxF a (topR o)) (R := ackR a S R o now delay) (now := now) (S := S)
    have hhas := acked_has (o := o) (S := S)
    unfold ackG at k4 ke ⊢
    dsimp only at k4 ke ⊢
    generalize ackR a S R o now delay = R2 at *
    generalize maxF a (topR o) = L at *
    generalize keepL (hasB o) (lostF L R2 now) S = K at *
    generalize lostL (hasB o) (lostF L R2 now) S = Lo at *
    generalize ackedL (hasB o) S = A at *
    refine EvP.to (a := (((((), ((), ((), ((), ((), (false, ())))))) : UF), cx S o a R K A Lo L R2 K A Lo L R2 ()))) (EvP.no rfl (EvP.to (sameInts_ok A (by omega)) (EvP.no rfl (EvP.to (sameInts_ok Lo (by omega)) (EvP.some rfl))))) ?_
    refine EvP.no rfl (EvP.no rfl ?_)
    refine EvP.to (a := (((((), ((), ((), ((), ((), (false, ())))))) : UF), cx S o a R K A Lo L R2 K A Lo L R2 ()))) ?_ ?_
    · refine EvP.to (space_i L K R2.1 R2.2.1 R2.2.2.1 R2.2.2.2.1 R2.2.2.2.2.1 (by omega)) (EvP.no (by dsimp only; rw [show goodSB L K (R2.1, (R2.2.1, (R2.2.2.1, (R2.2.2.2.1, (R2.2.2.2.2.1, ()))))) = true from k4]; rfl) (EvP.some ?_))
      dsimp only
      rw [i64w (n := (A.length : Int) + (Lo.length : Int)) (by omega) (by omega), i64w (by omega) (by omega), decide_eq_true (show (A.length : Int) + (Lo.length : Int) + (K.length : Int) = (S.length : Int) by omega)]
      rfl
    · refine EvP.no rfl (EvP.to (sent_l now delay S o a R K A Lo L R2 K A Lo L R2 g2 (by omega) (by omega) hhas (by omega) hlt (by omega) (by omega) hone S [] rfl) (EvP.inr ?_))
      refine EvP.to ((take_i L K R2 o now delay (by omega) (by omega)).eq ke) (EvP.yes rfl (EvP.pos rfl (EvP.pos rfl (EvP.some ?_))))
      simp
end Go.Proofs.Ytbfkfhadcmpndaa.Pure
