/- The ranges of a frame: both packages find the same ones good. -/
import Derived.Test.YtbfkfhadcmpndaaQVarNFnRanges
set_option linter.unusedVariables false
set_option linter.unusedSimpArgs false
namespace Go.Proofs.Ytbfkfhadcmpndaa.CFnRanges
open Go Go.Proofs Go.Proofs.YtbfkfhadcmpndaaPM Go.Proofs.Ytbfkfhadcmpndaa.Q Go.Proofs.Ytbfkfhadcmpndaa.GFnRanges

theorem in_s (n lo hi : Int) : EvP (fun N => spec_l1In N n lo hi) (· = ((decide (lo ≤ n ∧ n ≤ hi), ()), ())) := by
  refine EvP.of (fun N => spec_l1In.eq N _ _ _) (EvP.ite (fun h => EvP.some ?_) (fun h => EvP.some ?_))
  · rw [dec_eq (q := lo ≤ n ∧ n ≤ hi) (fun h2 => ⟨h, h2⟩) (fun h2 => h2.2)]
  · rw [decide_eq_false (show ¬(lo ≤ n ∧ n ≤ hi) from fun h2 => h h2.1)]
theorem known_s (n : Int) : EvP (fun N => spec_l1Known N n) (· = ((decide (VarN n), ()), ())) := EvP.of (fun N => spec_l1Known.eq N _) (EvP.to (in_s _ _ _) (EvP.some rfl))
abbrev RSh : Sh := .pair (.int .i64) (.int .i64)
/-- A range that stands right behind one that starts at p. -/
def RngP (p : Int) (x : Int × Int) : Prop := 0 ≤ x.1 ∧ x.1 ≤ x.2 ∧ VarN x.2 ∧ x.2 + 2 ≤ p
instance (p : Int) (x : Int × Int) : Decidable (RngP p x) := by unfold RngP; infer_instance
def rngB : Int → List (Int × Int) → Bool
  | _, [] => true
  | p, x :: r => decide (RngP p x) && rngB x.1 r
abbrev topP : Int := 4611686018427387905
/-- Where the range before a place starts. -/
def before : List (Int × Int) → Int
  | [] => topP
  | [x] => x.1
  | _ :: y :: l => before (y :: l)
theorem before_app (l : List (Int × Int)) (x : Int × Int) : before (l ++ [x]) = x.1 := by
  induction l with
  | nil => rfl
  | cons y l ih => cases l with
    | nil => rfl
    | cons z l => exact ih
theorem rd_at (l : List (Int × Int)) (x : Int × Int) (r : List (Int × Int)) : rdS RSh (l ++ x :: r) (Int.toNat (l.length : Int)) = x := by
  unfold rdS
  rw [Int.toNat_natCast, List.getD_eq_getElem?_getD, List.getElem?_append_right (Nat.le_refl _), Nat.sub_self]
  rfl
theorem rd_before {l : List (Int × Int)} (h : 0 < l.length) (x : Int × Int) (r : List (Int × Int)) : (rdS RSh (l ++ x :: r) (Int.toNat ((l.length : Int) - 1))).1 = before l := by
  obtain ⟨l', y, rfl⟩ : ∃ l' y, l = l' ++ [y] := ⟨l.dropLast, l.getLast (by intro e; rw [e] at h; cases h), (List.dropLast_concat_getLast _).symm⟩
  rw [before_app, List.append_assoc, show ((l' ++ [y]).length : Int) - 1 = (l'.length : Int) by rw [List.length_append]; simp]
  exact congrArg Prod.fst (rd_at l' y (x :: r))
abbrev XR := (Bool × Unit) × ((Int × (Int × Unit)) × Unit)
theorem ranges_impl_l : ∀ (r l : List (Int × Int)) (L : List (Int × Int)), L = l ++ r → (L.length : Int) ≤ 4611686018427387903 →
    EvP (fun N => impl_rangesOk.l0 N L L (L.length : Int) (l.length : Int)) (· = if rngB (before l) r = true then .inr ((), ()) else .inl ((false, ()), ())) := by
  intro r
  induction r with
  | nil =>
    intro l L e hL
    rw [List.append_nil] at e
    subst e
    exact EvP.step (fun N => impl_rangesOk.l0.eq N _ _ _ _) (EvP.neg (by omega) (EvP.some rfl))
  | cons x r ih =>
    intro l L e hL
    have hlen : L.length = l.length + (r.length + 1) := by rw [e, List.length_append, List.length_cons]
    refine EvP.step (fun N => impl_rangesOk.l0.eq N _ _ _ _) (EvP.pos (by omega) (EvP.chk2 (by omega) (by omega) ?_))
    have hx : rdS RSh L (Int.toNat (l.length : Int)) = x := by rw [e]; exact rd_at l x r
    have hw : IntKind.i64.wrap ((l.length : Int) - 1) = (l.length : Int) - 1 := i64w (by omega) (by omega)
    have hw2 : IntKind.i64.wrap ((l.length : Int) + 1) = (((l ++ [x]).length : Nat) : Int) := by rw [i64w (by omega) (by omega), List.length_append]; rfl
    simp only [hx, hw, hw2]
    refine EvP.to (a := (((!decide (RngP (before l) x), ()), ((x.1, (x.2, ())), ())) : XR)) ?_ ?_
    · have no : ¬RngP (before l) x → (((true, ()), ((x.1, (x.2, ())), ())) : XR) = ((!decide (RngP (before l) x), ()), ((x.1, (x.2, ())), ())) := fun h => by rw [decide_eq_false h]; rfl
      refine EvP.to (isVarint_i x.1) (EvP.nite (fun h1 => EvP.some (no fun h => h1 ⟨h.1, by have := h.2.1; have := h.2.2.1.2; omega⟩)) (fun h1 => EvP.to (isVarint_i x.2) (EvP.nite (fun h2 => EvP.some (no fun h => h2 h.2.2.1)) (fun h2 => EvP.ite (fun h3 => EvP.some (no fun h => by have := h.2.1; have h3 : x.2 < x.1 := h3; omega)) (fun h3 => EvP.ite (fun h4 => ?_) (fun h4 => EvP.some ?_))))))
      · have h3 : ¬ x.2 < x.1 := h3
        obtain ⟨v1, v2⟩ := h2
        have hb : (rdS RSh L (Int.toNat ((l.length : Int) - 1))).1 = before l := by rw [e]; exact rd_before (by omega) x r
        simp only [hb]
        refine EvP.chk2 (by omega) (by omega) (EvP.some ?_)
        have hq : (decide (before l < IntKind.i64.wrap (x.2 + 2))) = !decide (RngP (before l) x) := by
          rw [i64w (by omega) (by omega), ← decide_not]
          refine dec_eq (fun h k => by have := k.2.2.2; omega) (fun h => ?_)
          refine Classical.byContradiction fun k => h ⟨h1.1, by omega, ⟨v1, v2⟩, by omega⟩
        exact congrArg (fun b => (((b, ()), ((x.1, (x.2, ())), ())) : XR)) hq
      · have h3 : ¬ x.2 < x.1 := h3
        have hl : l = [] := List.eq_nil_of_length_eq_zero (by omega)
        subst hl
        rw [decide_eq_true (show RngP (before []) x from ⟨h1.1, by omega, h2, by have := h2.2; show x.2 + 2 ≤ (4611686018427387905 : Int); omega⟩)]
        rfl
    · unfold rngB
      cases hb : decide (RngP (before l) x) with
      | false => exact EvP.yes rfl (EvP.some rfl)
      | true =>
        refine EvP.no rfl ?_
        have hi := ih (l ++ [x]) L (by rw [e, List.append_assoc]; rfl) hL
        rw [before_app] at hi
        exact hi
theorem ranges_impl (r : List (Int × Int)) (h : (r.length : Int) ≤ 4611686018427387903) : EvP (fun N => impl_rangesOk N r) (· = ((rngB topP r, ()), ())) := by
  refine EvP.of (fun N => impl_rangesOk.eq N _) (EvP.to (ranges_impl_l r [] r rfl h) ?_)
  show EvP _ (· = ((rngB (before []) r, ()), ()))
  cases rngB (before []) r with
  | true => exact EvP.inr (EvP.some rfl)
  | false => exact EvP.inl (EvP.some rfl)
theorem ranges_spec_l : ∀ (r l : List (Int × Int)) (L : List (Int × Int)), L = l ++ r → (L.length : Int) ≤ 4611686018427387903 → (∀ x ∈ l, 0 ≤ x.1 ∧ x.1 ≤ 4611686018427387903) →
    EvP (fun N => spec_l1Ranges.l0 N L L (L.length : Int) (l.length : Int)) (· = if rngB (before l) r = true then .inr ((), ()) else .inl ((false, ()), ())) := by
  intro r
  induction r with
  | nil =>
    intro l L e hL hl
    rw [List.append_nil] at e
    subst e
    exact EvP.step (fun N => spec_l1Ranges.l0.eq N _ _ _ _) (EvP.neg (by omega) (EvP.some rfl))
  | cons x r ih =>
    intro l L e hL hl
    have hlen : L.length = l.length + (r.length + 1) := by rw [e, List.length_append, List.length_cons]
    refine EvP.step (fun N => spec_l1Ranges.l0.eq N _ _ _ _) (EvP.pos (by omega) (EvP.chk2 (by omega) (by omega) ?_))
    have hx : rdS RSh L (Int.toNat (l.length : Int)) = x := by rw [e]; exact rd_at l x r
    have hw : IntKind.i64.wrap ((l.length : Int) - 1) = (l.length : Int) - 1 := i64w (by omega) (by omega)
    have hw2 : IntKind.i64.wrap ((l.length : Int) + 1) = (((l ++ [x]).length : Nat) : Int) := by rw [i64w (by omega) (by omega), List.length_append]; rfl
    simp only [hx, hw, hw2]
    refine EvP.to (a := (((!decide (RngP (before l) x), ()), ((x.1, (x.2, ())), ())) : XR)) ?_ ?_
    · have no : ¬RngP (before l) x → (((true, ()), ((x.1, (x.2, ())), ())) : XR) = ((!decide (RngP (before l) x), ()), ((x.1, (x.2, ())), ())) := fun h => by rw [decide_eq_false h]; rfl
      refine EvP.to (in_s x.1 _ _) (EvP.nite (fun h1 => EvP.some (no fun h => h1 ⟨h.1, h.2.1⟩)) (fun h1 => EvP.to (known_s x.2) (EvP.nite (fun h2 => EvP.some (no fun h => h2 h.2.2.1)) (fun h2 => EvP.ite (fun h4 => ?_) (fun h4 => EvP.some ?_)))))
      · obtain ⟨v1, v2⟩ := h2
        have hb : (rdS RSh L (Int.toNat ((l.length : Int) - 1))).1 = before l := by rw [e]; exact rd_before (by omega) x r
        have hbb : 0 ≤ before l ∧ before l ≤ 4611686018427387903 := by
          obtain ⟨l', y, rfl⟩ : ∃ l' y, l = l' ++ [y] := ⟨l.dropLast, l.getLast (by intro e; rw [e] at h4; exact absurd h4 (by simp)), (List.dropLast_concat_getLast _).symm⟩
          rw [before_app]
          exact hl y (by simp)
        simp only [hb]
        refine EvP.chk2 (by omega) (by omega) (EvP.some ?_)
        have hq : (decide (IntKind.i64.wrap (before l - 2) < x.2)) = !decide (RngP (before l) x) := by
          rw [i64w (by omega) (by omega), ← decide_not]
          refine dec_eq (fun h k => by have := k.2.2.2; omega) (fun h => ?_)
          refine Classical.byContradiction fun k => h ⟨h1.1, h1.2, ⟨v1, v2⟩, by omega⟩
        exact congrArg (fun b => (((b, ()), ((x.1, (x.2, ())), ())) : XR)) hq
      · have hl : l = [] := List.eq_nil_of_length_eq_zero (by omega)
        subst hl
        rw [decide_eq_true (show RngP (before []) x from ⟨h1.1, h1.2, h2, by have := h2.2; show x.2 + 2 ≤ (4611686018427387905 : Int); omega⟩)]
        rfl
    · unfold rngB
      cases hb : decide (RngP (before l) x) with
      | false => exact EvP.yes rfl (EvP.some rfl)
      | true =>
        refine EvP.no rfl ?_
        have hp : RngP (before l) x := of_decide_eq_true hb
        have hi := ih (l ++ [x]) L (by rw [e, List.append_assoc]; rfl) hL (fun y hy => by
          rcases List.mem_append.1 hy with hy | hy
          · exact hl y hy
          · obtain rfl := List.mem_singleton.1 hy
            exact ⟨hp.1, by have := hp.2.1; have := hp.2.2.1.2; omega⟩)
        rw [before_app] at hi
        exact hi
theorem ranges_spec (r : List (Int × Int)) (h : (r.length : Int) ≤ 4611686018427387903) : EvP (fun N => spec_l1Ranges N r) (· = ((rngB topP r && decide (1 ≤ (r.length : Int) ∧ (r.length : Int) ≤ 20), ()), ())) := by
  refine EvP.of (fun N => spec_l1Ranges.eq N _) (EvP.to (ranges_spec_l r [] r rfl h (fun x hx => by cases hx)) ?_)
  show EvP _ (· = ((rngB (before []) r && _, ()), ()))
  cases rngB (before []) r with
  | true => exact EvP.inr (EvP.to (in_s _ _ _) (EvP.some rfl))
  | false => exact EvP.inl (EvP.some rfl)
end Go.Proofs.Ytbfkfhadcmpndaa.CFnRanges
