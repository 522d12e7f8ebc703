/- The answer to a header of a version that is not spoken: both packages give the same, and it is good both ways round. -/
import Derived.Test.YteichkkbhpdjcaaQGoodHImplFnCut
import Derived.Test.YteichkkbhpdjcaaQGoodHSpecFnCut
set_option linter.unusedVariables false
set_option linter.unusedSimpArgs false
namespace Go.Proofs.Yteichkkbhpdjcaa.CFnCut
open Go Go.Proofs Go.Proofs.YteichkkbhpdjcaaPM Go.Proofs.Yteichkkbhpdjcaa.Q Go.Proofs.Yteichkkbhpdjcaa.GFnCut

theorem index2_impl (l : List Int) (hl : l.length ≤ 1000000) : EvP (fun N => slices_ContainsFuncint_int_2 N l) (· = ((decide (¬ ∀ n ∈ l, 1 ≤ n ∧ n ≤ 4294967295), ()), ())) := by
  refine EvP.of (fun N => slices_ContainsFuncint_int_2.eq N _) ?_
  refine EvP.andK (Q := fun r => 0 ≤ r.1.1 ↔ ¬ ∀ n ∈ l, 1 ≤ n ∧ n ≤ 4294967295) ?_ ?_
  · refine EvP.of (fun N => slices_IndexFuncint_int_2.eq N _) ?_
    refine EvP.andK (Q := fun r => (∀ x, r = .inl x → 0 ≤ x.1.1 ∧ ¬ ∀ n ∈ l, 1 ≤ n ∧ n ≤ 4294967295) ∧ (∀ x, r = .inr x → ∀ n ∈ l, 1 ≤ n ∧ n ≤ 4294967295)) ?_ ?_
    · have inner : ∀ (d i : Nat), l.length ≤ i + d → (∀ n ∈ l.take i, 1 ≤ n ∧ n ≤ 4294967295) → EvP (fun N => slices_IndexFuncint_int_2.l0 N l (l.length : Int) (i : Int)) (fun r => (∀ x, r = .inl x → 0 ≤ x.1.1 ∧ ¬ ∀ n ∈ l, 1 ≤ n ∧ n ≤ 4294967295) ∧ (∀ x, r = .inr x → ∀ n ∈ l, 1 ≤ n ∧ n ≤ 4294967295)) := by
        intro d
        induction d with
        | zero =>
          intro i h1 h2
          refine EvP.step (fun N => slices_IndexFuncint_int_2.l0.eq N _ _ _) (EvP.neg (by omega) (EvP.some ⟨fun x e => (by cases e), fun x e => ?_⟩))
          rw [List.take_of_length_le (by omega)] at h2
          exact h2
        | succ d ih =>
          intro i h1 h2
          refine EvP.step (fun N => slices_IndexFuncint_int_2.l0.eq N _ _ _) ?_
          by_cases hi : i < l.length
          · refine EvP.pos (by omega) (EvP.chk2 (by omega) (by omega) ?_)
            rw [Int.toNat_natCast]
            have hg : l.getD i 0 = l[i] := by rw [List.getD_eq_getElem?_getD, List.getElem?_eq_getElem hi]; rfl
            rw [hg]
            refine EvP.to (EvP.of (fun N => impl_VersionAnswer_1.eq N _) (EvP.to (EvP.of (fun N => impl_isVersion.eq N _) (EvP.to (in_impl _ _ _) (EvP.some rfl))) (EvP.some rfl))) ?_
            refine EvP.selnb rfl (fun h => EvP.some ⟨fun x e => ?_, fun x e => (by cases e)⟩) (fun h => ?_)
            · cases e
              exact ⟨by dsimp only; omega, fun hall => h (hall _ (List.getElem_mem hi))⟩
            · rw [i64w (by omega) (by omega)]
              refine (ih (i + 1) (by omega) ?_)
              rw [List.take_succ_eq_append_getElem hi]
              intro n hn
              rcases List.mem_append.1 hn with hn | hn
              · exact h2 n hn
              · rw [List.mem_singleton.1 hn]; exact h
          · refine EvP.neg (by omega) (EvP.some ⟨fun x e => (by cases e), fun x e => ?_⟩)
            rw [List.take_of_length_le (by omega)] at h2
            exact h2
      exact inner l.length 0 (by omega) (fun n hn => by simp at hn)
    · rintro r ⟨h1, h2⟩
      refine EvP.or (fun x e => EvP.some ?_) (fun x e => EvP.some ?_)
      · have := h1 x e
        exact ⟨fun _ => this.2, fun _ => this.1⟩
      · have := h2 x e
        exact ⟨fun h => by dsimp only at h; omega, fun h => absurd this h⟩
  · intro r h
    refine EvP.some ?_
    congr 2
    exact decide_eq_decide.2 h
theorem contains_impl (l : List Int) (v : Int) (hl : l.length ≤ 1000000) : EvP (fun N => slices_Containsint_int N l v) (· = ((decide (v ∈ l), ()), ())) := by
  refine EvP.of (fun N => slices_Containsint_int.eq N _ _) ?_
  refine EvP.andK (Q := fun r => 0 ≤ r.1.1 ↔ v ∈ l) ?_ ?_
  · refine EvP.of (fun N => slices_Indexint_int.eq N _ _) ?_
    refine EvP.andK (Q := fun r => (∀ x, r = .inl x → 0 ≤ x.1.1 ∧ v ∈ l) ∧ (∀ x, r = .inr x → ¬ v ∈ l)) ?_ ?_
    · refine EvP.count (f := fun N i (_ : Unit) => slices_Indexint_int.l0 N l v (l.length : Int) i) (n := l.length) (inv := fun i _ => ¬ v ∈ l.take i) ?_ ?_ 0 () (by omega) (by simp)
      · intro i _ hi hv next
        refine EvP.step (fun N => slices_Indexint_int.l0.eq N _ _ _ _) (EvP.pos (by omega) (EvP.chk2 (by omega) (by omega) ?_))
        rw [Int.toNat_natCast]
        have hg : l.getD i 0 = l[i] := by rw [List.getD_eq_getElem?_getD, List.getElem?_eq_getElem hi]; rfl
        rw [hg]
        refine EvP.ite (fun h => EvP.some ⟨fun x e => ?_, fun x e => (by cases e)⟩) (fun h => ?_)
        · cases e
          exact ⟨by dsimp only; omega, by rw [h]; exact List.getElem_mem hi⟩
        · rw [show IntKind.i64.wrap ((i : Int) + 1) = ((i + 1 : Nat) : Int) by rw [i64w (by omega) (by omega)]; omega]
          refine next () ?_
          rw [List.take_succ_eq_append_getElem hi]
          intro hm
          rcases List.mem_append.1 hm with hm | hm
          · exact hv hm
          · exact h (List.mem_singleton.1 hm)
      · intro _ hv
        refine EvP.step (fun N => slices_Indexint_int.l0.eq N _ _ _ _) (EvP.neg (by omega) (EvP.some ⟨fun x e => (by cases e), fun x e => ?_⟩))
        rw [List.take_length] at hv
        exact hv
    · rintro r ⟨h1, h2⟩
      refine EvP.or (fun x e => EvP.some ?_) (fun x e => EvP.some ?_)
      · have := h1 x e
        exact ⟨fun _ => this.2, fun _ => this.1⟩
      · have := h2 x e
        exact ⟨fun h => by dsimp only at h; omega, fun h => absurd h this⟩
  · intro r h
    refine EvP.some ?_
    congr 2
    exact decide_eq_decide.2 h
theorem has_spec (l : List Int) (v : Int) (hl : l.length ≤ 1000000) : EvP (fun N => spec_l1Has N l v) (· = ((decide (v ∈ l), ()), ())) := by
  refine EvP.of (fun N => spec_l1Has.eq N _ _) ?_
  refine EvP.andK (Q := fun r => (∀ x, r = .inl x → x.1.1 = true ∧ v ∈ l) ∧ (∀ x, r = .inr x → ¬ v ∈ l)) ?_ ?_
  · refine EvP.count (f := fun N i (_ : Unit) => spec_l1Has.l0 N v l (l.length : Int) i) (n := l.length) (inv := fun i _ => ¬ v ∈ l.take i) ?_ ?_ 0 () (by omega) (by simp)
    · intro i _ hi hv next
      refine EvP.step (fun N => spec_l1Has.l0.eq N _ _ _ _) (EvP.pos (by omega) (EvP.chk2 (by omega) (by omega) ?_))
      rw [Int.toNat_natCast]
      have hg : l.getD i 0 = l[i] := by rw [List.getD_eq_getElem?_getD, List.getElem?_eq_getElem hi]; rfl
      rw [hg]
      refine EvP.ite (fun h => EvP.some ⟨fun x e => ?_, fun x e => (by cases e)⟩) (fun h => ?_)
      · cases e
        exact ⟨rfl, by rw [← h]; exact List.getElem_mem hi⟩
      · rw [show IntKind.i64.wrap ((i : Int) + 1) = ((i + 1 : Nat) : Int) by rw [i64w (by omega) (by omega)]; omega]
        refine next () ?_
        rw [List.take_succ_eq_append_getElem hi]
        intro hm
        rcases List.mem_append.1 hm with hm | hm
        · exact hv hm
        · exact h (List.mem_singleton.1 hm).symm
    · intro _ hv
      refine EvP.step (fun N => spec_l1Has.l0.eq N _ _ _ _) (EvP.neg (by omega) (EvP.some ⟨fun x e => (by cases e), fun x e => ?_⟩))
      rw [List.take_length] at hv
      exact hv
  · rintro r ⟨h1, h2⟩
    refine EvP.or (fun x e => EvP.some ?_) (fun x e => EvP.some ?_)
    · obtain ⟨e1, e2⟩ := h1 x e
      rw [e1, decide_eq_true e2]
    · rw [decide_eq_false (h2 x e)]
/-- Whether there is an answer. -/
def vaOk (f b v : Int) (d c t p : ByteArray) (l o : List Int) : Prop := GoodH f b v d c t p l ∧ f = 0 ∧ (1 ≤ (o.length : Int) ∧ (o.length : Int) ≤ 20) ∧ ¬ v ∈ o ∧ ∀ n ∈ o, 1 ≤ n ∧ n ≤ 4294967295
instance (f b v : Int) (d c t p : ByteArray) (l o : List Int) : Decidable (vaOk f b v d c t p l o) := by unfold vaOk; exact inferInstance
/-- What both packages answer. -/
def vaOf (f b v : Int) (d c t p : ByteArray) (l o : List Int) : (Hd × (Bool × Unit)) × (List Int × Unit) :=
  if vaOk f b v d c t p l o then ((mkH 4 0 0 c d nilS nilS o, (true, ())), (o, ())) else ((mkH 0 0 0 nilS nilS nilS nilS [], (false, ())), (o, ()))
theorem vaOf_no {f b v : Int} {d c t p : ByteArray} {l o : List Int} (h : ¬ vaOk f b v d c t p l o) : vaOf f b v d c t p l o = ((mkH 0 0 0 nilS nilS nilS nilS [], (false, ())), (o, ())) := if_neg h
theorem vaOf_yes {f b v : Int} {d c t p : ByteArray} {l o : List Int} (h : vaOk f b v d c t p l o) : vaOf f b v d c t p l o = ((mkH 4 0 0 c d nilS nilS o, (true, ())), (o, ())) := if_pos h
theorem va_impl (f b v : Int) (d c t p : ByteArray) (l o : List Int) (hl : l.length ≤ 1000000) (ho : o.length ≤ 1000000) : EvP (fun N => impl_VersionAnswer_2 N f b v d c t p l o) (· = vaOf f b v d c t p l o) := by
  refine EvP.of (fun N => impl_VersionAnswer_2.eq N _ _ _ _ _ _ _ _ _) (EvP.to (index2_impl o ho) ?_)
  refine EvP.to (a := (((), ((), ((), (decide (¬ vaOk f b v d c t p l o), ())))), (o, (mkH f b v d c t p l, ((0, (0, (0, (nilS, (nilS, (nilS, (nilS, ((), ())))))))), ()))))) ?_ ?_
  · refine EvP.to (good_impl f b v d c t p l hl) (EvP.selnb rfl (fun h => EvP.some ?_) (fun hg => EvP.nite (fun h => EvP.some ?_) (fun hf => EvP.to (in_impl _ _ _) (EvP.selnb rfl (fun h => EvP.some ?_) (fun ho2 => EvP.selb rfl (fun h => EvP.some ?_) (fun ha => EvP.to (contains_impl o v ho) (EvP.some ?_)))))))
    · rw [decide_eq_true (p := ¬ vaOk f b v d c t p l o) (fun hq => h hq.1)]; rfl
    · rw [decide_eq_true (p := ¬ vaOk f b v d c t p l o) (fun hq => h hq.2.1)]; rfl
    · rw [decide_eq_true (p := ¬ vaOk f b v d c t p l o) (fun hq => h hq.2.2.1)]; rfl
    · rw [decide_eq_true (p := ¬ vaOk f b v d c t p l o) (fun hq => h hq.2.2.2.2)]; rfl
    · have : decide (v ∈ o) = decide (¬ vaOk f b v d c t p l o) := dec_eq (fun h hq => hq.2.2.2.1 h) (fun hq => Classical.byContradiction fun h => hq ⟨hg, hf, ho2, h, Classical.not_not.1 ha⟩)
      dsimp only
      rw [this]; rfl
  · refine EvP.selb rfl (fun h => EvP.some ?_) (fun h => ?_)
    · rw [vaOf_no h]; rfl
    · refine EvP.to (a := (((), ()), (o, ()))) (EvP.of (fun N => slices_Cloneint_int.eq N _) (EvP.chk1 (show _ < (68719476736 : Nat) by (try dsimp only); omega) (EvP.some rfl))) (EvP.some ?_)
      rw [vaOf_yes (Classical.not_not.1 h)]; rfl
theorem va_spec_l (p1 : Hd) (o : List Int) (ho : o.length ≤ 1000000) : EvP (fun N => spec_VersionAnswer_2.l0 N (o.length : Int) 0 o p1.1 p1.2.1 p1.2.2.1 p1.2.2.2.1 p1.2.2.2.2.1 p1.2.2.2.2.2.1 p1.2.2.2.2.2.2.1 p1.2.2.2.2.2.2.2.1 0 0 0 nilS nilS nilS nilS)
    (fun r => (∀ x, r = .inl x → x = (((), (false, ())), (o, (p1, ((0, (0, (0, (nilS, (nilS, (nilS, (nilS, ((), ())))))))), ())))) ∧ ¬ ∀ n ∈ o, 1 ≤ n ∧ n ≤ 4294967295) ∧ (∀ x, r = .inr x → x.2.1 = o ∧ x.2.2.1 = p1 ∧ ∀ n ∈ o, 1 ≤ n ∧ n ≤ 4294967295)) := by
  obtain ⟨f, b, v, d, c, t, p, l, ⟨⟩⟩ := p1
  refine EvP.count (f := fun N i (_ : Unit) => spec_VersionAnswer_2.l0 N (o.length : Int) i o f b v d c t p l 0 0 0 nilS nilS nilS nilS) (n := o.length) (inv := fun i _ => ∀ n ∈ o.take i, 1 ≤ n ∧ n ≤ 4294967295) ?_ ?_ 0 () (by omega) (by simp)
  · intro i _ hi hv next
    refine EvP.step (fun N => spec_VersionAnswer_2.l0.eq N _ _ _ _ _ _ _ _ _ _ _ _ _ _ _ _ _ _) (EvP.pos (by omega) (EvP.chk2 (by omega) (by omega) ?_))
    rw [Int.toNat_natCast]
    have hg : o.getD i 0 = o[i] := by rw [List.getD_eq_getElem?_getD, List.getElem?_eq_getElem hi]; rfl
    rw [hg]
    refine EvP.to (in_spec _ _ _) (EvP.selnb rfl (fun h => EvP.some ⟨fun x e => ?_, fun x e => (by cases e)⟩) (fun h => ?_))
    · cases e
      exact ⟨rfl, fun hall => h (hall _ (List.getElem_mem hi))⟩
    · rw [show IntKind.i64.wrap ((i : Int) + 1) = ((i + 1 : Nat) : Int) by rw [i64w (by omega) (by omega)]; omega]
      refine next () ?_
      rw [List.take_succ_eq_append_getElem hi]
      intro n hn
      rcases List.mem_append.1 hn with hn | hn
      · exact hv n hn
      · rw [List.mem_singleton.1 hn]; exact h
  · intro _ hv
    refine EvP.step (fun N => spec_VersionAnswer_2.l0.eq N _ _ _ _ _ _ _ _ _ _ _ _ _ _ _ _ _ _) (EvP.neg (by omega) (EvP.some ⟨fun x e => (by cases e), fun x e => ?_⟩))
    cases e
    rw [List.take_length] at hv
    exact ⟨rfl, rfl, hv⟩
theorem va_spec (f b v : Int) (d c t p : ByteArray) (l o : List Int) (hl : l.length ≤ 1000000) (ho : o.length ≤ 1000000) : EvP (fun N => spec_VersionAnswer_2 N f b v d c t p l o) (· = vaOf f b v d c t p l o) := by
  refine EvP.of (fun N => spec_VersionAnswer_2.eq N _ _ _ _ _ _ _ _ _) ?_
  refine EvP.to (a := (((), ((), ((), (decide (¬ (GoodH f b v d c t p l ∧ f = 0 ∧ (1 ≤ (o.length : Int) ∧ (o.length : Int) ≤ 20) ∧ ¬ v ∈ o)), ())))), (o, (mkH f b v d c t p l, ((0, (0, (0, (nilS, (nilS, (nilS, (nilS, ((), ())))))))), ()))))) ?_ ?_
  · refine EvP.to (good_spec f b v d c t p l hl) (EvP.selnb rfl (fun h => EvP.some ?_) (fun hg => EvP.nite (fun h => EvP.some ?_) (fun hf => EvP.to (in_spec _ _ _) (EvP.selnb rfl (fun h => EvP.some ?_) (fun ho2 => EvP.to (has_spec o v ho) (EvP.some ?_))))))
    · rw [decide_eq_true (p := ¬ (GoodH f b v d c t p l ∧ f = 0 ∧ (1 ≤ (o.length : Int) ∧ (o.length : Int) ≤ 20) ∧ ¬ v ∈ o)) (fun hq => h hq.1)]; rfl
    · rw [decide_eq_true (p := ¬ (GoodH f b v d c t p l ∧ f = 0 ∧ (1 ≤ (o.length : Int) ∧ (o.length : Int) ≤ 20) ∧ ¬ v ∈ o)) (fun hq => h hq.2.1)]; rfl
    · rw [decide_eq_true (p := ¬ (GoodH f b v d c t p l ∧ f = 0 ∧ (1 ≤ (o.length : Int) ∧ (o.length : Int) ≤ 20) ∧ ¬ v ∈ o)) (fun hq => h hq.2.2.1)]; rfl
    · have : decide (v ∈ o) = decide (¬ (GoodH f b v d c t p l ∧ f = 0 ∧ (1 ≤ (o.length : Int) ∧ (o.length : Int) ≤ 20) ∧ ¬ v ∈ o)) := dec_eq (fun h hq => hq.2.2.2 h) (fun hq => Classical.byContradiction fun h => hq ⟨hg, hf, ho2, h⟩)
      dsimp only
      rw [this]; rfl
  · refine EvP.selb rfl (fun h => EvP.some ?_) (fun h => ?_)
    · rw [vaOf_no (fun hq => h ⟨hq.1, hq.2.1, hq.2.2.1, hq.2.2.2.1⟩)]; rfl
    · have h := Classical.not_not.1 h
      refine EvP.andK (va_spec_l (mkH f b v d c t p l) o ho) ?_
      rintro r ⟨h1, h2⟩
      refine EvP.or (fun x e => ?_) (fun x e => ?_)
      · obtain ⟨rfl, hn⟩ := h1 x e
        refine EvP.some ?_
        rw [vaOf_no (fun hq => hn hq.2.2.2.2)]; rfl
      · obtain ⟨e1, e2, hy⟩ := h2 x e
        rw [e1, e2]
        refine EvP.chk1 (show _ < (68719476736 : Nat) by (try dsimp only); omega) (EvP.some ?_)
        rw [vaOf_yes ⟨h.1, h.2.1, h.2.2.1, h.2.2.2, hy⟩]; rfl
/-- The answer is a good header. -/
theorem va_good {f b v : Int} {d c t p : ByteArray} {l o : List Int} (h : vaOk f b v d c t p l o) : GoodH 4 0 0 c d nilS nilS o := by
  obtain ⟨hg, rfl, ho, hv, ha⟩ := h
  obtain ⟨⟨g1, g2, g3, g4, g5⟩, _⟩ := hg
  refine ⟨⟨g2, g1, by omega, by decide, by decide⟩, .inr rfl, .inl rfl, .inr (.inl ⟨rfl, rfl, rfl, by omega, fun n hn => ?_⟩)⟩
  have := ha n hn
  omega
end Go.Proofs.Yteichkkbhpdjcaa.CFnCut
