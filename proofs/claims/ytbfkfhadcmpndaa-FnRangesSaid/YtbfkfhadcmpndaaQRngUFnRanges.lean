/- Ranges in any order, joined: what the program makes is the good row of the same numbers. -/
import Derived.Test.YtbfkfhadcmpndaaQRngPFnRanges
import Derived.Test.YtbfkfhadcmpndaaQCuFnRanges
set_option linter.unusedVariables false
set_option linter.unusedSectionVars false
set_option linter.unusedSimpArgs false
namespace Go.Proofs.Ytbfkfhadcmpndaa.CFnRanges
open Go Go.Proofs Go.Proofs.YtbfkfhadcmpndaaPM Go.Proofs.Ytbfkfhadcmpndaa.Q Go.Proofs.Ytbfkfhadcmpndaa.GFnRanges

theorem fall_of : ∀ (l : List (Int × Int)), (∀ i j (h : i < j) (h2 : j < l.length), (l[j]'h2).2 ≤ (l[i]'(by omega)).2) → FallP l := by
  intro l
  induction l with
  | nil => intro _; trivial
  | cons x l ih =>
    intro h
    refine ⟨fun y hy => ?_, ih fun i j hij h2 => h (i + 1) (j + 1) (by omega) (by simp; omega)⟩
    obtain ⟨i, hi, rfl⟩ := List.getElem_of_mem hy
    exact h 0 (i + 1) (by omega) (by simp; omega)
theorem sortTo_ok (xs : List (Int × Int)) : (sortL cmpTo xs).Perm xs ∧ FallP (sortL cmpTo xs) ∧ (sortL cmpTo xs).length = xs.length := by
  have hl := sortL_len swoTo xs
  obtain ⟨⟨h1, h2, h3⟩, h4⟩ := sortA_ok swoTo xs.toArray
  have hsz : (sortA cmpTo xs.toArray).size = xs.length := by simpa using h1
  refine ⟨?_, fall_of _ fun i j hij hj => ?_, hl⟩
  · have e1 : ((sortA cmpTo xs.toArray).extract 0 xs.toArray.size) = sortA cmpTo xs.toArray := by
      rw [← h1, Array.extract_size]
    rw [e1] at h3
    simpa [sortL] using h3
  · have hj' : j < xs.length := by rw [hl] at hj; exact hj
    have := h4 i j (Nat.zero_le _) hij (by simpa using hj')
    rw [cmpTo_lt] at this
    have e : ∀ k (hk : k < xs.length), (sortA cmpTo xs.toArray)[k]! = (sortL cmpTo xs)[k]'(by rw [hl]; exact hk) := fun k hk => by
      rw [getElem!_pos _ k (by rw [hsz]; exact hk)]
      simp [sortL]
    rw [e i (by omega), e j hj'] at this
    have := of_decide_eq_false this
    omega
abbrev UniR := (Unit × Unit) × (List (Int × Int) × (List (Int × Int) × Unit))
theorem united_l : ∀ (r l Y out : List (Int × Int)), Y = l ++ r → Y.length ≤ 1000 → out.length ≤ l.length → (∀ x ∈ r, OkP x) →
    EvP (fun N => impl_united.l0 N (Y.length : Int) (l.length : Int) Y out) (· = (((), ()), (Y, (r.foldl stepU out, ())))) := by
  intro r
  induction r with
  | nil =>
    intro l Y out e hY ho hr
    rw [List.append_nil] at e
    subst e
    exact EvP.step (fun N => impl_united.l0.eq N _ _ _ _) (EvP.neg (by omega) (EvP.some rfl))
  | cons y r ih =>
    intro l Y out e hY ho hr
    have hlen : Y.length = l.length + (r.length + 1) := by rw [e, List.length_append, List.length_cons]
    obtain ⟨o1, o2, o3, o4⟩ := hr y (List.mem_cons_self ..)
    refine EvP.step (fun N => impl_united.l0.eq N _ _ _ _) (EvP.pos (by omega) ?_)
    have hrd : rdS RSh Y (Int.toNat (l.length : Int)) = y := by rw [e]; exact rd_at l y r
    have hw2 : IntKind.i64.wrap ((l.length : Int) + 1) = (((l ++ [y]).length : Nat) : Int) := by rw [i64w (by omega) (by omega), List.length_append]; rfl
    have w1 : IntKind.i64.wrap (y.2 + 1) = y.2 + 1 := i64w (by omega) (by omega)
    have w2 : IntKind.i64.wrap ((out.length : Int) - 1) = (out.length : Int) - 1 := i64w (by omega) (by omega)
    simp only [hrd, hw2, w1, w2]
    refine EvP.to (a := (((), ((), ())), (Y, (stepU out y, ())))) (EvP.chk2 (by omega) (by omega) ?_) ?_
    · unfold stepU
      cases hx : out.getLast? with
      | none =>
        have h0 : out = [] := by simpa using hx
        subst h0
        exact EvP.to (EvP.neg (by simp) (EvP.some rfl)) (EvP.no rfl (EvP.chk1 (by unfold most; simp) (EvP.some rfl)))
      | some x =>
        obtain ⟨o, rfl⟩ := List.getLast?_eq_some_iff.1 hx
        have hl1 : ((o ++ [x]).length : Int) - 1 = (o.length : Int) := by simp
        have hl2 : (o ++ [x]).length = o.length + 1 := by simp
        have hrx : rdS RSh (o ++ [x]) (Int.toNat (o.length : Int)) = x := rd_at o x []
        simp only [hl1, hrx]
        refine EvP.to (a := (((), ((), ((), (decide (x.1 ≤ y.2 + 1), ())))), (Y, (o ++ [x], ((y.1, (y.2, ())), ()))))) (EvP.pos (by omega) (EvP.chk2 (by omega) (by omega) (EvP.some rfl))) ?_
        refine EvP.ite (fun h => EvP.chk2 (by omega) (by (try dsimp only); omega) (EvP.chk2 (by omega) (by (try dsimp only); omega) (EvP.some ?_))) (fun h => EvP.chk1 (by unfold most; dsimp only; omega) (EvP.some ?_))
        · dsimp only
          rw [if_pos h, List.dropLast_concat, hrx, Int.toNat_natCast, List.set_append_right _ _ (Nat.le_refl _), Nat.sub_self]
          have : mmI false x.1 y.1 = (if y.1 < x.1 then y.1 else x.1) := by
            have := mmin_f x.1 y.1
            split <;> omega
          rw [this]
          rfl
        · dsimp only
          rw [if_neg h]
    · have hs : (stepU out y).length ≤ out.length + 1 := by
        unfold stepU
        cases hx : out.getLast? with
        | none => simp
        | some x =>
          obtain ⟨o, rfl⟩ := List.getLast?_eq_some_iff.1 hx
          dsimp only
          split <;> simp
      exact ih (l ++ [y]) Y (stepU out y) (by rw [e, List.append_assoc]; rfl) hY (by simp; omega) fun z hz => hr z (List.mem_cons_of_mem _ hz)
def uniF (xs : List (Int × Int)) : List (Int × Int) := (sortL cmpTo xs).foldl stepU []
theorem uniF_ok {xs : List (Int × Int)} (h : ∀ x ∈ xs, OkP x) : rngB topP (uniF xs) = true ∧ (∀ n, hasB (uniF xs) n = hasB xs n) ∧ (uniF xs).length ≤ xs.length := by
  obtain ⟨p1, p2, p3⟩ := sortTo_ok xs
  have hm : ∀ x, x ∈ sortL cmpTo xs ↔ x ∈ xs := fun x => p1.mem_iff
  obtain ⟨f1, f2, f3, f4, f5⟩ := foldU_ok (sortL cmpTo xs) [] [] ⟨rfl, fun _ => rfl, fun _ => rfl, fun x hx => by simp at hx, Nat.le_refl _⟩ (fun x hx => h x ((hm x).1 hx)) p2 (fun x hx => by cases hx)
  refine ⟨f1, fun n => ?_, by rw [List.nil_append, p3] at f5; exact f5⟩
  refine (f2 n).trans ?_
  rw [List.nil_append]
  unfold hasB
  rw [Bool.eq_iff_iff, List.any_eq_true, List.any_eq_true]
  exact ⟨fun ⟨x, a, b⟩ => ⟨x, (hm x).1 a, b⟩, fun ⟨x, a, b⟩ => ⟨x, (hm x).2 a, b⟩⟩
theorem united_i (xs : List (Int × Int)) (hl : xs.length ≤ 1000) (h : ∀ x ∈ xs, OkP x) : EvP (fun N => impl_united N xs) (· = (((), ()), (sortL cmpTo xs, (uniF xs, ())))) := by
  obtain ⟨p1, p2, p3⟩ := sortTo_ok xs
  refine EvP.of (fun N => impl_united.eq N _) (EvP.to (a := ((), (sortL cmpTo xs, ()))) (EvP.of (fun N => slices_SortFuncimpl_Range_impl_Range.eq N _) (EvP.chk1 (by omega) (EvP.some rfl))) ?_)
  exact EvP.to (united_l (sortL cmpTo xs) [] (sortL cmpTo xs) [] rfl (by omega) (by simp) fun x hx => h x (p1.mem_iff.1 hx)) (EvP.some rfl)
end Go.Proofs.Ytbfkfhadcmpndaa.CFnRanges
