/- FnRanges: a number that is put is in the ranges, no other comes in, and joined ranges have the numbers of both. -/
import Derived.Test.YtbfkfhadcmpndaaQRngUFnRanges
set_option linter.unusedVariables false
set_option linter.unusedSectionVars false
set_option linter.unusedSimpArgs false
namespace Go.Proofs.Ytbfkfhadcmpndaa.Pure
open Go Go.Proofs Go.Proofs.YtbfkfhadcmpndaaPM Go.Proofs.Ytbfkfhadcmpndaa.Q Go.Proofs.Ytbfkfhadcmpndaa.CFnRanges Go.Proofs.Ytbfkfhadcmpndaa.GFnRanges

theorem rng_el : ∀ {l : List (Int × Int)} {p : Int}, rngB p l = true → ∀ x ∈ l, OkP x := by
  intro l
  induction l with
  | nil => intro p _ x h; cases h
  | cons y l ih =>
    intro p h x hx
    obtain ⟨a, b⟩ := rng_cons h
    rcases List.mem_cons.1 hx with rfl | hx
    · exact ⟨a.1, a.2.1, a.2.2.1⟩
    · exact ih b x hx
theorem goodL_p {l : List (Int × Int)} (h : goodLB l = true) : l.length ≤ 20 ∧ rngB topP l = true := by
  unfold goodLB at h
  rw [Bool.and_eq_true, decide_eq_true_eq] at h
  exact ⟨by have := h.1; omega, h.2⟩
theorem goodL_mk {l : List (Int × Int)} (h : l.length ≤ 20) (k : rngB topP l = true) : goodLB l = true := by
  unfold goodLB
  rw [k, decide_eq_true (show (l.length : Int) ≤ 20 by omega)]
  rfl
def gP (l : List (Int × Int)) (n : Int) : Bool := goodLB l && decide (VarN n)
theorem gP_p {l : List (Int × Int)} {n : Int} (h : gP l n = true) : goodLB l = true ∧ VarN n := by
  unfold gP at h
  rw [Bool.and_eq_true, decide_eq_true_eq] at h
  exact h
theorem one_okP {n : Int} (h : VarN n) : OkP (n, n) := ⟨h.1, Int.le_refl _, h⟩
theorem uni_put {l : List (Int × Int)} {n : Int} (h : gP l n = true) : uniF (l ++ [(n, n)]) = putF l (n, n) := by
  obtain ⟨h1, h2⟩ := gP_p h
  obtain ⟨g1, g2⟩ := goodL_p h1
  obtain ⟨u1, u2, u3⟩ := uniF_ok (xs := l ++ [(n, n)]) fun x hx => by
    rcases List.mem_append.1 hx with hx | hx
    · exact rng_el g2 x hx
    · rw [List.mem_singleton.1 hx]; exact one_okP h2
  obtain ⟨p1, p2, p3⟩ := putF_ok l topP (n, n) g2 (one_okP h2) (by have := h2.2; show n + 2 ≤ (4611686018427387905 : Int); omega)
  refine rng_one _ _ _ _ u1 p1 fun k => ?_
  rw [u2, p2, has_app]
  show _ = (_ || decide (n ≤ k ∧ k ≤ n))
  show (_ || (decide (n ≤ k ∧ k ≤ n) || false)) = _
  rw [Bool.or_false]
theorem number_i (l : List (Int × Int)) (n : Int) : EvP (fun N => impl_PutNumber_2 N n l) (· = match gP l n with | true => (((putF l (n, n)).take 20, (true, ())), (l, ())) | false => (([], (false, ())), (l, ()))) := by
  refine EvP.of (fun N => impl_PutNumber_2.eq N _ _) (EvP.to (a := (((), ((!gP l n), ())), (l, ()))) ?_ ?_)
  · refine EvP.to (goodL_i l) ?_
    unfold gP
    cases goodLB l with
    | false => exact EvP.yes rfl (EvP.some rfl)
    | true => exact EvP.no rfl (EvP.to (isVarint_i n) (EvP.some rfl))
  · cases hg : gP l n with
    | false => exact EvP.yes rfl (EvP.some rfl)
    | true =>
      obtain ⟨h1, h2⟩ := gP_p hg
      obtain ⟨g1, g2⟩ := goodL_p h1
      refine EvP.no rfl (EvP.to (a := (((), ()), (l, ()))) (EvP.of (fun N => slices_Cloneimpl_Range_impl_Range.eq N _) (EvP.chk1 (by unfold most; dsimp only; omega) (EvP.some rfl))) (EvP.chk1 (by unfold most; dsimp only; omega) ?_))
      refine EvP.to (united_i (l ++ [(n, n)]) (by simp; omega) fun x hx => ?_) ?_
      · rcases List.mem_append.1 hx with hx | hx
        · exact rng_el g2 x hx
        · rw [List.mem_singleton.1 hx]; exact one_okP h2
      · rw [uni_put hg]
        have hm := mmin_f ((putF l (n, n)).length : Int) 20
        dsimp only
        refine EvP.chk3 (by omega) (by omega) (by omega) (EvP.some ?_)
        rw [List.drop_zero, Nat.sub_zero]
        have : (putF l (n, n)).take (Int.toNat (mmI false ((putF l (n, n)).length : Int) 20)) = (putF l (n, n)).take 20 := by
          by_cases h : (putF l (n, n)).length ≤ 20
          · rw [List.take_of_length_le h, List.take_of_length_le (by omega)]
          · rw [show Int.toNat (mmI false ((putF l (n, n)).length : Int) 20) = 20 by omega]
        rw [this]
theorem number_s (l : List (Int × Int)) (n : Int) : EvP (fun N => spec_PutNumber N l n) (· = match gP l n with | true => (((), (true, ())), ((putF l (n, n)).take 20, ())) | false => (((), (false, ())), ([], ()))) := by
  refine EvP.of (fun N => spec_PutNumber.eq N _ _) (EvP.to (a := (((!gP l n), ()), ())) ?_ ?_)
  · refine EvP.to (goodL_s l) ?_
    unfold gP
    cases goodLB l with
    | false => exact EvP.yes rfl (EvP.some rfl)
    | true => exact EvP.no rfl (EvP.to (known_s n) (EvP.some rfl))
  · cases hg : gP l n with
    | false => exact EvP.yes rfl (EvP.some rfl)
    | true =>
      obtain ⟨h1, h2⟩ := gP_p hg
      obtain ⟨g1, g2⟩ := goodL_p h1
      refine EvP.no rfl (EvP.to (put_s l (n, n) topP (by omega) g2 (one_okP h2)) (EvP.ite (fun h => EvP.chk1 (by omega) (EvP.some rfl)) (fun h => EvP.some ?_)))
      rw [List.take_of_length_le (by dsimp only at h; omega)]
theorem sameR_l (a : List (Int × Int)) (h : a.length ≤ 1000) : ∀ (n i : Nat), i + n = a.length → EvP (fun N => laws_sameRanges.l0 N a a (a.length : Int) (i : Int)) (· = .inr ((), ())) := by
  intro n
  induction n with
  | zero =>
    intro i hi
    exact EvP.step (fun N => laws_sameRanges.l0.eq N _ _ _ _) (EvP.neg (by omega) (EvP.some rfl))
  | succ n ih =>
    intro i hi
    refine EvP.step (fun N => laws_sameRanges.l0.eq N _ _ _ _) (EvP.pos (by omega) (EvP.chk2 (by omega) (by omega) (EvP.chk2 (by omega) (by omega) (EvP.no (by simp) ?_))))
    rw [show IntKind.i64.wrap ((i : Int) + 1) = ((i + 1 : Nat) : Int) by rw [i64w (by omega) (by omega)]; omega]
    exact ih (i + 1) (by omega)
theorem sameR_ok (a : List (Int × Int)) (h : a.length ≤ 1000) : EvP (fun N => laws_sameRanges N a a) (· = ((true, ()), ())) :=
  EvP.of (fun N => laws_sameRanges.eq N _ _) (EvP.nneg rfl (EvP.to (sameR_l a h a.length 0 (by omega)) (EvP.inr (EvP.some rfl))))
theorem hasN_s (l : List (Int × Int)) (n : Int) (h : goodLB l = true) : EvP (fun N => spec_HasNumber N l n) (· = ((hasB l n, (true, ())), ())) := by
  have := (goodL_p h).1
  exact EvP.of (fun N => spec_HasNumber.eq N _ _) (EvP.to (goodL_s l) (EvP.no (by rw [h]; rfl) (EvP.to (has_s l n (by omega)) (EvP.some rfl))))
theorem hasN_i (l : List (Int × Int)) (n : Int) (h : goodLB l = true) (hn : VarN n) : EvP (fun N => impl_HasNumber N l n) (· = ((hasB l n, (true, ())), ())) := by
  have := (goodL_p h).1
  exact EvP.of (fun N => impl_HasNumber.eq N _ _) (EvP.to (goodL_i l) (EvP.no (by rw [h]; rfl) (EvP.to (isVarint_i n) (EvP.pos hn (EvP.to (has_i l n (by omega)) (EvP.some rfl))))))

/-! ### joined ranges -/
theorem grow_ok (n : Int) (h : 0 ≤ n) (h1 : n ≤ 1000) : EvP (fun N => slices_Growimpl_Range_impl_Range N n) (· = (((), ()), ([], ()))) := by
  refine EvP.of (fun N => slices_Growimpl_Range_impl_Range.eq N _) (EvP.neg (by omega) ?_)
  rw [i64w (n := n - 0) (by omega) (by omega)]
  refine EvP.ite (fun h2 => EvP.chk3 (by omega) (by omega) (by rw [List.length_replicate]; unfold most; omega) (EvP.chk1 (by omega) (EvP.some rfl))) (fun h2 => EvP.some rfl)
theorem concat_ok (a b : List (Int × Int)) (ha : a.length ≤ 100) (hb : b.length ≤ 100) : EvP (fun N => slices_Concatimpl_Range_impl_Range N [a, b]) (· = (((), ()), (a ++ b, ()))) := by
  have s1 : IntKind.i64.wrap (0 + (a.length : Int)) = (a.length : Int) := by rw [Int.zero_add]; exact i64w (by omega) (by omega)
  have s2 : IntKind.i64.wrap ((a.length : Int) + (b.length : Int)) = (a.length : Int) + (b.length : Int) := i64w (by omega) (by omega)
  refine EvP.of (fun N => slices_Concatimpl_Range_impl_Range.eq N _) (EvP.to (a := (((a.length : Int) + (b.length : Int), ()), ())) ?_ (EvP.to (grow_ok ((a.length : Int) + (b.length : Int)) (by omega) (by omega)) (EvP.to (a := (((), ()), (a ++ b, ()))) ?_ (EvP.some rfl))))
  · refine EvP.step (fun N => slices_Concatimpl_Range_impl_Range.l0.eq N _ _ _ _ _) (EvP.pos (by simp) (EvP.chk2 (by simp) (by simp) ?_))
    show EvP (fun N => sel (decide (IntKind.i64.wrap (0 + (a.length : Int)) < 0)) none (slices_Concatimpl_Range_impl_Range.l0 N [a, b] [a, b] 2 (IntKind.i64.wrap (0 + (a.length : Int))) 1)) _
    rw [s1]
    refine EvP.neg (by omega) (EvP.step (fun N => slices_Concatimpl_Range_impl_Range.l0.eq N _ _ _ _ _) (EvP.pos (by simp) (EvP.chk2 (by simp) (by simp) ?_)))
    show EvP (fun N => sel (decide (IntKind.i64.wrap ((a.length : Int) + (b.length : Int)) < 0)) none (slices_Concatimpl_Range_impl_Range.l0 N [a, b] [a, b] 2 (IntKind.i64.wrap ((a.length : Int) + (b.length : Int))) 2)) _
    rw [s2]
    exact EvP.neg (by omega) (EvP.step (fun N => slices_Concatimpl_Range_impl_Range.l0.eq N _ _ _ _ _) (EvP.neg (by simp) (EvP.some rfl)))
  · refine EvP.step (fun N => slices_Concatimpl_Range_impl_Range.l1.eq N _ _ _ _) (EvP.pos (by simp) (EvP.chk2 (by decide) (by simp) ?_))
    show EvP (fun N => chk (decide (0 + a.length < most)) (slices_Concatimpl_Range_impl_Range.l1 N [a, b] 2 1 a)) _
    refine EvP.chk1 (by unfold most; omega) (EvP.step (fun N => slices_Concatimpl_Range_impl_Range.l1.eq N _ _ _ _) (EvP.pos (by decide) (EvP.chk2 (by decide) (by simp) ?_)))
    show EvP (fun N => chk (decide (a.length + b.length < most)) (slices_Concatimpl_Range_impl_Range.l1 N [a, b] 2 2 (a ++ b))) _
    exact EvP.chk1 (by unfold most; omega) (EvP.step (fun N => slices_Concatimpl_Range_impl_Range.l1.eq N _ _ _ _) (EvP.neg (by decide) (EvP.some rfl)))
def gJ (a b : List (Int × Int)) : Bool := goodLB a && goodLB b
theorem gJ_p {a b : List (Int × Int)} (h : gJ a b = true) : goodLB a = true ∧ goodLB b = true := by
  unfold gJ at h
  rw [Bool.and_eq_true] at h
  exact h
def okJ (a b : List (Int × Int)) : Bool := gJ a b && decide ((uniF (a ++ b)).length ≤ 20)
theorem uni_join {a b : List (Int × Int)} (h : gJ a b = true) : (∀ x ∈ a ++ b, OkP x) ∧ rngB topP (uniF (a ++ b)) = true ∧ ∀ n, hasB (uniF (a ++ b)) n = (hasB a n || hasB b n) := by
  obtain ⟨h1, h2⟩ := gJ_p h
  have ho : ∀ x ∈ a ++ b, OkP x := fun x hx => by
    rcases List.mem_append.1 hx with hx | hx
    · exact rng_el (goodL_p h1).2 x hx
    · exact rng_el (goodL_p h2).2 x hx
  obtain ⟨u1, u2, u3⟩ := uniF_ok ho
  exact ⟨ho, u1, fun n => by rw [u2, has_app]⟩
theorem join_i (a b : List (Int × Int)) : EvP (fun N => impl_JoinRanges N a b) (· = match okJ a b with | true => (((), (true, ())), (uniF (a ++ b), ())) | false => (((), (false, ())), ([], ()))) := by
  refine EvP.of (fun N => impl_JoinRanges.eq N _ _) (EvP.to (a := (((!gJ a b), ()), ())) ?_ ?_)
  · refine EvP.to (goodL_i a) ?_
    unfold gJ
    cases goodLB a with
    | false => exact EvP.yes rfl (EvP.some rfl)
    | true => exact EvP.no rfl (EvP.to (goodL_i b) (EvP.some rfl))
  · unfold okJ
    cases hg : gJ a b with
    | false => exact EvP.yes rfl (EvP.some rfl)
    | true =>
      obtain ⟨h1, h2⟩ := gJ_p hg
      have l1 := (goodL_p h1).1
      have l2 := (goodL_p h2).1
      refine EvP.no rfl (EvP.to (concat_ok a b (by omega) (by omega)) (EvP.to (united_i (a ++ b) (by simp; omega) (uni_join hg).1) (EvP.ite (fun h => EvP.some ?_) (fun h => EvP.some ?_))))
      · rw [decide_eq_false (show ¬(uniF (a ++ b)).length ≤ 20 by dsimp only at h; omega)]; rfl
      · rw [decide_eq_true (show (uniF (a ++ b)).length ≤ 20 by dsimp only at h; omega)]; rfl
theorem fold_s (a : List (Int × Int)) : ∀ (r l b out : List (Int × Int)), b = l ++ r → b.length ≤ 100 → out.length ≤ 100 + l.length → rngB topP out = true → (∀ x ∈ r, OkP x) →
    EvP (fun N => spec_JoinRanges_2.l0 N (b.length : Int) out (l.length : Int) a b) (fun z => z.2 = (a, (b, ((), ()))) ∧ rngB topP z.1.1 = true ∧ ∀ n, hasB z.1.1 n = (hasB out n || hasB r n)) := by
  intro r
  induction r with
  | nil =>
    intro l b out e hb ho h hr
    rw [List.append_nil] at e
    subst e
    exact EvP.step (fun N => spec_JoinRanges_2.l0.eq N _ _ _ _ _) (EvP.neg (by omega) (EvP.some ⟨rfl, h, fun n => by show hasB out n = (hasB out n || false); rw [Bool.or_false]⟩))
  | cons y r ih =>
    intro l b out e hb ho h hr
    have hlen : b.length = l.length + (r.length + 1) := by rw [e, List.length_append, List.length_cons]
    have hy := hr y (List.mem_cons_self ..)
    refine EvP.step (fun N => spec_JoinRanges_2.l0.eq N _ _ _ _ _) (EvP.pos (by omega) (EvP.chk2 (by omega) (by omega) ?_))
    have hrd : rdS RSh b (Int.toNat (l.length : Int)) = y := by rw [e]; exact rd_at l y r
    have hw2 : IntKind.i64.wrap ((l.length : Int) + 1) = (((l ++ [y]).length : Nat) : Int) := by rw [i64w (by omega) (by omega), List.length_append]; rfl
    simp only [hrd, hw2]
    obtain ⟨p1, p2, p3⟩ := putF_ok out topP y h hy (by have := hy.2.2.2; show y.2 + 2 ≤ (4611686018427387905 : Int); omega)
    refine EvP.to (put_s out y topP (by omega) h hy) ((ih (l ++ [y]) b (putF out y) (by rw [e, List.append_assoc]; rfl) hb (by simp; omega) p1 fun z hz => hr z (List.mem_cons_of_mem _ hz)).mono fun z hz => ⟨hz.1, hz.2.1, fun n => ?_⟩)
    rw [hz.2.2, p2, has_cons, Bool.or_assoc]
theorem join_s (a b : List (Int × Int)) : EvP (fun N => spec_JoinRanges_2 N a b) (fun z => z.1.2.1 = okJ a b ∧ z.2 = (a, (b, ()))) := by
  refine EvP.of (fun N => spec_JoinRanges_2.eq N _ _) (EvP.to (a := (((), ((), ((!gJ a b), ()))), (a, (b, ())))) ?_ ?_)
  · refine EvP.to (goodL_s a) ?_
    unfold gJ
    cases goodLB a with
    | false => exact EvP.yes rfl (EvP.some rfl)
    | true => exact EvP.no rfl (EvP.to (goodL_s b) (EvP.some rfl))
  · unfold okJ
    cases hg : gJ a b with
    | false => exact EvP.yes rfl (EvP.some ⟨rfl, rfl⟩)
    | true =>
      obtain ⟨h1, h2⟩ := gJ_p hg
      obtain ⟨l1, r1⟩ := goodL_p h1
      obtain ⟨l2, r2⟩ := goodL_p h2
      obtain ⟨u1, u2, u3⟩ := uni_join hg
      refine EvP.no rfl (EvP.chk1 (by unfold most; dsimp only; omega) (EvP.andK (fold_s a b [] b a rfl (by omega) (by simp; omega) r1 (rng_el r2)) ?_))
      rintro ⟨⟨J, ⟨⟩⟩, w⟩ ⟨z1, z2, z3⟩
      dsimp only at z1 z2 z3
      subst z1
      have : J = uniF (a ++ b) := rng_one _ _ _ _ z2 u2 fun n => by rw [z3, u3]
      subst this
      refine EvP.ite (fun h => EvP.some ⟨?_, rfl⟩) (fun h => EvP.some ⟨?_, rfl⟩)
      · rw [decide_eq_false (show ¬(uniF (a ++ b)).length ≤ 20 by dsimp only at h; omega)]; rfl
      · rw [decide_eq_true (show (uniF (a ++ b)).length ≤ 20 by dsimp only at h; omega)]; rfl

/-! ### the draws -/
theorem drawPut_ok {l : List Int} (hl : Bytes l) : EvP (fun N => spec_DrawPutNumber N l) (fun _ => True) := by
  refine EvP.of (fun N => spec_DrawPutNumber.eq N _) (EvP.andK (pick_ok hl 40 0 0 (by omega) (by omega)) ?_)
  rintro ⟨⟨x, ⟨⟩⟩, ⟨l2, a2, s2, ⟨⟩⟩, ⟨⟩⟩ ⟨_, q1, q2, q3⟩
  dsimp only at q1 q2 q3
  subst q1
  refine EvP.andK (Q := fun z => z.2.1.1 = l2 ∧ 0 ≤ z.2.1.2.1 ∧ z.2.1.2.1 ≤ 10) ?_ ?_
  · refine EvP.andK (one_ok hl 20 a2 s2 (by omega) (by omega)) ?_
    rintro ⟨⟨x, ⟨⟩⟩, ⟨l3, a3, s3, ⟨⟩⟩, ⟨⟩⟩ ⟨q4, q5, q6⟩
    dsimp only at q4 q5 q6
    subst q4
    refine EvP.sel (fun _ => EvP.andK (among_ok hl _ (by simp) a3 s3 (by omega) (by omega)) ?_) (fun _ => EvP.some ⟨rfl, (by dsimp only; omega), (by dsimp only; omega)⟩)
    rintro ⟨⟨x, ⟨⟩⟩, ⟨l4, a4, s4, ⟨⟩⟩, ⟨⟩⟩ ⟨_, q7, q8, q9⟩
    dsimp only at q7 q8 q9
    exact EvP.some ⟨q7, (by dsimp only; omega), (by dsimp only; omega)⟩
  · rintro ⟨u, ⟨l4, a4, s4, ⟨⟩⟩, ⟨⟩⟩ ⟨w1, w2, w3⟩
    dsimp only at w1 w2 w3
    subst w1
    exact EvP.andK (numbers_ok hl a4 s4 (by omega) (by omega)) fun z _ => EvP.some trivial
theorem drawJoin_ok {l : List Int} (hl : Bytes l) : EvP (fun N => spec_DrawJoinRanges N l) (fun _ => True) := by
  refine EvP.of (fun N => spec_DrawJoinRanges.eq N _) (EvP.andK (numbers_ok hl 0 0 (by omega) (by omega)) ?_)
  rintro ⟨u, ⟨l4, a4, s4, ⟨⟩⟩, p, ⟨⟩⟩ ⟨w1, w2, w3, w4⟩
  dsimp only at w1 w2 w3
  subst w1
  exact EvP.andK (numbers_ok hl a4 s4 (by omega) (by omega)) fun z _ => EvP.some trivial

/-! ### the law -/
abbrev C5 := List (Int × Int) × (List (Int × Int) × (List (Int × Int) × (List (Int × Int) × (List (Int × Int) × Unit))))
section
variable (n : Int) (x : List (Int × Int)) (ok is : Bool) (l w a b j : List (Int × Int))
abbrev c5 : C5 := (l, (w, (a, (b, (j, ())))))
abbrev J5 := ((Bool × Unit) × C5) ⊕ ((Unit × (Unit × (Unit × (Unit × Unit)))) × C5)
theorem law_l (h1 : ok = true → goodLB l = true ∧ goodLB x = true ∧ (l.length < 20 → ∀ k, hasB x k = (hasB l k || decide (k = n)))) (h2 : is = true → goodLB a = true ∧ goodLB b = true ∧ goodLB j = true ∧ ∀ k, hasB j k = (hasB a k || hasB b k)) :
    ∀ (m : Nat) (i : Int), i + (m : Int) = 45 → 0 ≤ i → EvP (fun N => laws_FnRanges.l0 N n x ok is i l w a b j) (· = .inr ((), c5 l w a b j)) := by
  intro m
  induction m with
  | zero =>
    intro i hi h0
    exact EvP.step (fun N => laws_FnRanges.l0.eq N _ _ _ _ _ _ _ _ _ _) (EvP.neg (by omega) (EvP.some rfl))
  | succ m ih =>
    intro i hi h0
    have hv : VarN i := ⟨h0, by omega⟩
    refine EvP.step (fun N => laws_FnRanges.l0.eq N _ _ _ _ _ _ _ _ _ _) (EvP.pos (by omega) ?_)
    rw [i64w (n := i + 1) (by omega) (by omega)]
    refine EvP.to (a := (.inr (((), ((), ((), ((), ())))), c5 l w a b j) : J5)) ?_ (EvP.inr (ih (i + 1) (by omega) (by omega)))
    refine EvP.to (a := (.inr (((), ((), ((), ((), ())))), c5 l w a b j) : J5)) ?_ (EvP.inr ?_)
    · cases ok with
      | false => exact EvP.to (EvP.no rfl (EvP.some rfl)) (EvP.no rfl (EvP.some rfl))
      | true =>
        obtain ⟨g1, g2, g3⟩ := h1 rfl
        refine EvP.to (EvP.yes rfl (EvP.some rfl)) (EvP.ite (fun hl => ?_) (fun _ => EvP.some rfl))
        refine EvP.to (hasN_s l i g1) (EvP.to (hasN_i x i g2 hv) (EvP.to (a := (((), ((), ((), ((), (false, ()))))), c5 l w a b j)) ?_ (EvP.no rfl (EvP.some rfl))))
        have e := g3 (by omega) i
        refine EvP.no rfl ?_
        rw [e]
        cases hasB l i with
        | true => exact EvP.yes rfl (EvP.some rfl)
        | false => exact EvP.no rfl (EvP.some (by simp))
    · cases is with
      | false => exact EvP.no rfl (EvP.some rfl)
      | true =>
        obtain ⟨g1, g2, g3, g4⟩ := h2 rfl
        refine EvP.yes rfl (EvP.to (hasN_s a i g1) (EvP.to (hasN_s b i g2) (EvP.to (hasN_i j i g3 hv) (EvP.to (a := (((), ((), ((), ((), (false, ()))))), c5 l w a b j)) ?_ (EvP.no rfl (EvP.some rfl))))))
        refine EvP.no rfl ?_
        rw [g4]
        cases hasB a i with
        | true => exact EvP.yes rfl (EvP.some rfl)
        | false => exact EvP.no rfl (EvP.some (by simp))
end
theorem FnRanges (a0 : List Int) (h0 : ∀ n ∈ a0, 0 ≤ n ∧ n ≤ 255) (s0 : a0.length ≤ 140737488351232) (a1 : List Int) (h1 : ∀ n ∈ a1, 0 ≤ n ∧ n ≤ 255) (s1 : a1.length ≤ 140737488351232) : ∃ N, laws_FnRanges N a0 a1 = some ((true, ()), ()) := by
  refine EvP.fin (EvP.of (fun N => laws_FnRanges.eq N _ _) (EvP.ite (fun _ => EvP.some rfl) (fun _ => EvP.andK (drawPut_ok h0) ?_)))
  rintro ⟨⟨⟨⟩, n, ⟨⟩⟩, l, ⟨⟩⟩ _
  refine EvP.to (number_i l n) ?_
  have hl : ∀ z : ((List (Int × Int)) × (Bool × Unit)) × (List (Int × Int) × Unit), z = (match gP l n with | true => (((putF l (n, n)).take 20, (true, ())), (l, ())) | false => (([], (false, ())), (l, ()))) → z = (((match gP l n with | true => (putF l (n, n)).take 20 | false => []), (gP l n, ())), (l, ())) := fun z h => by
    rw [h]; cases gP l n <;> rfl
  rw [hl _ rfl]
  refine EvP.to ((number_s l n).eq (s := (((), (gP l n, ())), ((match gP l n with | true => (putF l (n, n)).take 20 | false => []), ()))) (by cases gP l n <;> rfl)) ?_
  have hx : (match gP l n with | true => (putF l (n, n)).take 20 | false => []).length ≤ 20 := by
    cases gP l n with
    | true => simp; omega
    | false => simp
  have g1 : gP l n = true → goodLB l = true ∧ goodLB (match gP l n with | true => (putF l (n, n)).take 20 | false => []) = true ∧ (l.length < 20 → ∀ k, hasB (match gP l n with | true => (putF l (n, n)).take 20 | false => []) k = (hasB l k || decide (k = n))) := fun h => by
    obtain ⟨q1, q2⟩ := gP_p h
    obtain ⟨q3, q4⟩ := goodL_p q1
    obtain ⟨p1, p2, p3⟩ := putF_ok l topP (n, n) q4 (one_okP q2) (by have := q2.2; show n + 2 ≤ (4611686018427387905 : Int); omega)
    rw [h] at hx ⊢
    refine ⟨q1, goodL_mk hx (rng_take _ _ _ p1), fun hl k => ?_⟩
    show hasB ((putF l (n, n)).take 20) k = _
    rw [List.take_of_length_le (by omega), p2]
    congr 1
    exact decide_eq_decide.2 ⟨fun h => by dsimp only at h; omega, fun h => by dsimp only; omega⟩
  generalize (match gP l n with | true => (putF l (n, n)).take 20 | false => []) = x at *
  generalize gP l n = ok at *
  dsimp only
  refine EvP.to (a := (((), (false, ())), (l, (x, ())))) (EvP.no (by simp) (EvP.to (sameR_ok x (by omega)) (EvP.some rfl))) (EvP.no rfl (EvP.andK (drawJoin_ok h1) ?_))
  rintro ⟨⟨⟨⟩, ⟨⟩, ⟨⟩⟩, a, b, ⟨⟩⟩ _
  refine EvP.to ((join_i a b).eq (s := (((), (okJ a b, ())), ((match okJ a b with | true => uniF (a ++ b) | false => []), ()))) (by cases okJ a b <;> rfl)) (EvP.andK (join_s a b) ?_)
  rintro ⟨⟨J, is, ⟨⟩⟩, w⟩ ⟨z1, z2⟩
  dsimp only at z1 z2
  subst z2
  subst z1
  have g2 : okJ a b = true → goodLB a = true ∧ goodLB b = true ∧ goodLB (match okJ a b with | true => uniF (a ++ b) | false => []) = true ∧ ∀ k, hasB (match okJ a b with | true => uniF (a ++ b) | false => []) k = (hasB a k || hasB b k) := fun h => by
    rw [h]
    unfold okJ at h
    rw [Bool.and_eq_true, decide_eq_true_eq] at h
    obtain ⟨q1, q2⟩ := gJ_p h.1
    obtain ⟨u1, u2, u3⟩ := uni_join h.1
    exact ⟨q1, q2, goodL_mk h.2 u2, u3⟩
  generalize (match okJ a b with | true => uniF (a ++ b) | false => []) = j at *
  generalize okJ a b = is at *
  dsimp only
  refine EvP.to (a := (((), ((), ((), ((), (false, ()))))), c5 l x a b j)) ?_ (EvP.no rfl (EvP.to (law_l n x ok is l x a b j g1 g2 45 0 rfl (by omega)) (EvP.inr (EvP.some rfl))))
  refine EvP.no (by simp) ?_
  cases ok with
  | true =>
    refine EvP.yes rfl (EvP.to (goodL_i x) (EvP.no (by rw [(g1 rfl).2.1]; rfl) ?_))
    cases is with
    | true => exact EvP.yes rfl (EvP.to (goodL_i j) (EvP.some (by rw [(g2 rfl).2.2.1]; rfl)))
    | false => exact EvP.no rfl (EvP.some rfl)
  | false =>
    refine EvP.no rfl ?_
    cases is with
    | true => exact EvP.yes rfl (EvP.to (goodL_i j) (EvP.some (by rw [(g2 rfl).2.2.1]; rfl)))
    | false => exact EvP.no rfl (EvP.some rfl)
end Go.Proofs.Ytbfkfhadcmpndaa.Pure
