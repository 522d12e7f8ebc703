/- The program's GoodHeader. -/
import Derived.Test.YtkfpfcpmaejeoaaGreatQHead
import Derived.Test.YtkfpfcpmaejeoaaGreatQInFnRetried
set_option linter.unusedVariables false
set_option linter.unusedSimpArgs false
namespace Go.Proofs.YtkfpfcpmaejeoaaGreat.CFnRetried
open Go Go.Proofs Go.Proofs.YtkfpfcpmaejeoaaGreatPM Go.Proofs.YtkfpfcpmaejeoaaGreat.Q Go.Proofs.YtkfpfcpmaejeoaaGreat.GFnRetried

theorem index_impl (l : List Int) (hl : l.length ≤ 2000000) : EvP (fun N => slices_ContainsFuncint_int N l) (· = ((decide (¬ ∀ n ∈ l, 0 ≤ n ∧ n ≤ 4294967295), ()), ())) := by
  refine EvP.of (fun N => slices_ContainsFuncint_int.eq N _) ?_
  refine EvP.andK (Q := fun r => 0 ≤ r.1.1 ↔ ¬ ∀ n ∈ l, 0 ≤ n ∧ n ≤ 4294967295) ?_ ?_
  · refine EvP.of (fun N => slices_IndexFuncint_int.eq N _) ?_
    refine EvP.andK (Q := fun r => (∀ x, r = .inl x → 0 ≤ x.1.1 ∧ ¬ ∀ n ∈ l, 0 ≤ n ∧ n ≤ 4294967295) ∧ (∀ x, r = .inr x → ∀ n ∈ l, 0 ≤ n ∧ n ≤ 4294967295)) ?_ ?_
    · have inner : ∀ (d i : Nat), l.length ≤ i + d → (∀ n ∈ l.take i, 0 ≤ n ∧ n ≤ 4294967295) → EvP (fun N => slices_IndexFuncint_int.l0 N l (l.length : Int) (i : Int)) (fun r => (∀ x, r = .inl x → 0 ≤ x.1.1 ∧ ¬ ∀ n ∈ l, 0 ≤ n ∧ n ≤ 4294967295) ∧ (∀ x, r = .inr x → ∀ n ∈ l, 0 ≤ n ∧ n ≤ 4294967295)) := by
        intro d
        induction d with
        | zero =>
          intro i h1 h2
          refine EvP.step (fun N => slices_IndexFuncint_int.l0.eq N _ _ _) (EvP.neg (by omega) (EvP.some ⟨fun x e => (by cases e), fun x e => ?_⟩))
          rw [List.take_of_length_le (by omega)] at h2
          exact h2
        | succ d ih =>
          intro i h1 h2
          refine EvP.step (fun N => slices_IndexFuncint_int.l0.eq N _ _ _) ?_
          by_cases hi : i < l.length
          · refine EvP.pos (by omega) (EvP.chk2 (by omega) (by omega) ?_)
            rw [Int.toNat_natCast]
            have hg : l.getD i 0 = l[i] := by rw [List.getD_eq_getElem?_getD, List.getElem?_eq_getElem hi]; rfl
            rw [hg]
            refine EvP.to (EvP.of (fun N => impl_GoodHeader_1.eq N _) (EvP.to (in_impl _ _ _) (EvP.some rfl))) ?_
            refine EvP.selnb rfl (fun h => EvP.some ⟨fun x e => ?_, fun x e => (by cases e)⟩) (fun h => ?_)
            · cases e
              exact ⟨by dsimp only; omega, fun hall => h (hall _ (List.getElem_mem hi))⟩
            · rw [i64w (by omega) (by omega)]
              refine (ih (i + 1) (by omega) ?_)
              rw [List.take_succ_eq_append_getElem hi]
              intro n hn
              rcases List.mem_append.1 hn with hn | hn
              · exact h2 n hn
              · rw [List.mem_singleton.1 hn]; exact h
          · refine EvP.neg (by omega) (EvP.some ⟨fun x e => (by cases e), fun x e => ?_⟩)
            rw [List.take_of_length_le (by omega)] at h2
            exact h2
      exact inner l.length 0 (by omega) (fun n hn => by simp at hn)
    · rintro r ⟨h1, h2⟩
      refine EvP.or (fun x e => EvP.some ?_) (fun x e => EvP.some ?_)
      · have := h1 x e
        exact ⟨fun _ => this.2, fun _ => this.1⟩
      · have := h2 x e
        exact ⟨fun h => by dsimp only at h; omega, fun h => absurd this h⟩
  · intro r h
    refine EvP.some ?_
    congr 2
    exact decide_eq_decide.2 h
theorem good_impl (f b v : Int) (d c t p : ByteArray) (l : List Int) (hl : l.length ≤ 2000000) : EvP (fun N => impl_GoodHeader N f b v d c t p l) (· = ((decide (GoodH f b v d c t p l), ()), ())) := by
  refine EvP.of (fun N => impl_GoodHeader.eq N _ _ _ _ _ _ _ _) ?_
  refine EvP.to (a := (((), (decide (¬ (d.size ≤ 20 ∧ c.size ≤ 20 ∧ (0 ≤ b ∧ b ≤ 15) ∧ t.size ≤ 200 ∧ p.size ≤ 1200)), ())), ((f, (b, (v, (d, (c, (t, (p, (l, ())))))))), ()))) ?_ ?_
  · refine EvP.ite (fun h => EvP.some (by rw [decide_eq_true (by omega)])) (fun h1 => EvP.ite (fun h => EvP.some (by rw [decide_eq_true (by omega)])) (fun h2 => EvP.to (in_impl _ _ _) (EvP.selnb rfl (fun h => EvP.some (by rw [decide_eq_true (by omega)])) (fun h3 => EvP.ite (fun h => EvP.some (by rw [decide_eq_true (by omega)])) (fun h4 => EvP.some ?_)))))
    congr 3
    exact decide_eq_decide.2 (by omega)
  · dsimp only
    refine EvP.ite (fun h => EvP.some ?_) (fun h => ?_)
    · rw [decide_eq_false (fun hg => h hg.1)]
    have h := Classical.not_not.1 h
    refine EvP.to (a := (((), (decide (¬ ((f = 0 ∨ t = nilS) ∧ (f = 4 ∨ l = []))), ())), ((f, (b, (v, (d, (c, (t, (p, (l, ())))))))), ()))) ?_ ?_
    · have hlen : ∀ {q : Prop}, (0 < (l.length : Int)) → ¬ (f = 4) → ¬ (q ∧ (f = 4 ∨ l = [])) := fun h0 h4 hq => by
        rcases hq.2 with h | h
        · exact h4 h
        · rw [h] at h0; simp at h0
      have hl0 : ¬ (0 < (l.length : Int)) → l = [] := fun h0 => List.eq_nil_of_length_eq_zero (by omega)
      refine EvP.nite (fun h0 => EvP.nite (fun h1 => EvP.some ?_) (fun h1 => EvP.nite (fun h2 => EvP.some ?_) (fun h2 => EvP.some ?_))) (fun h0 => EvP.nite (fun h2 => EvP.some ?_) (fun h2 => EvP.some ?_))
      · rw [decide_eq_true (p := ¬ ((f = 0 ∨ t = nilS) ∧ (f = 4 ∨ l = []))) (fun hq => hq.1.elim h0 h1)]
      · congr 3
        refine dec_eq (fun h3 => hlen h3 h2) (fun hq => ?_)
        have : ¬ (l = []) := fun hn => hq ⟨.inr h1, .inr hn⟩
        have : l.length ≠ 0 := fun hn => this (List.eq_nil_of_length_eq_zero hn)
        omega
      · rw [decide_eq_false (fun hq => hq ⟨.inr h1, .inl h2⟩)]
      · congr 3
        refine dec_eq (fun h3 => hlen h3 h2) (fun hq => ?_)
        have : ¬ (l = []) := fun hn => hq ⟨.inl h0, .inr hn⟩
        have : l.length ≠ 0 := fun hn => this (List.eq_nil_of_length_eq_zero hn)
        omega
      · rw [decide_eq_false (fun hq => hq ⟨.inl h0, .inl h2⟩)]
    · dsimp only
      refine EvP.ite (fun h2 => EvP.some ?_) (fun h2 => ?_)
      · rw [decide_eq_false (fun hg => h2 ⟨hg.2.1, hg.2.2.1⟩)]
      have h2 := Classical.not_not.1 h2
      have hG : GoodH f b v d c t p l ↔ (((0 ≤ f ∧ f ≤ 3) ∧ (1 ≤ v ∧ v ≤ 4294967295) ∧ p ≠ nilS) ∨ (f = 4 ∧ v = 0 ∧ p = nilS ∧ (1 ≤ l.length ∧ l.length ≤ 20) ∧ ∀ n ∈ l, 0 ≤ n ∧ n ≤ 4294967295) ∨ (f = 5 ∧ v = 0 ∧ c = nilS)) :=
        ⟨fun hg => hg.2.2.2, fun hg => ⟨h, h2.1, h2.2, hg⟩⟩
      have hG2 : decide (GoodH f b v d c t p l) = decide (((0 ≤ f ∧ f ≤ 3) ∧ (1 ≤ v ∧ v ≤ 4294967295) ∧ p ≠ nilS) ∨ (f = 4 ∧ v = 0 ∧ p = nilS ∧ (1 ≤ l.length ∧ l.length ≤ 20) ∧ ∀ n ∈ l, 0 ≤ n ∧ n ≤ 4294967295) ∨ (f = 5 ∧ v = 0 ∧ c = nilS)) := decide_eq_decide.2 hG
      rw [hG2]
      refine EvP.to (EvP.of (fun N => impl_long.eq N _) (EvP.to (in_impl _ _ _) (EvP.some rfl))) ?_
      refine EvP.ite (fun hf => ?_) (fun hf => ?_)
      · refine EvP.to (a := ((decide ((1 ≤ v ∧ v ≤ 4294967295) ∧ p ≠ nilS), ()), ((f, (b, (v, (d, (c, (t, (p, (l, ())))))))), ()))) ?_ (EvP.some ?_)
        · refine EvP.to (EvP.of (fun N => impl_isVersion.eq N _) (EvP.to (in_impl _ _ _) (EvP.some rfl))) ?_
          refine EvP.ite (fun hv => EvP.some ?_) (fun hv => EvP.some ?_)
          · congr 2
            by_cases hp : p = nilS
            · rw [decide_eq_true hp, decide_eq_false (fun hq => hq.2 hp)]; rfl
            · rw [decide_eq_false hp, decide_eq_true ⟨hv, hp⟩]; rfl
          · rw [decide_eq_false (fun hq => hv hq.1)]
        · congr 2
          refine dec_eq (fun hq => Or.inl ⟨hf, hq⟩) (fun hq => ?_)
          rcases hq with hq | hq | hq
          · exact hq.2
          · have := hq.1; omega
          · have := hq.1; omega
      · refine EvP.ite (fun h4 => ?_) (fun h4 => ?_)
        · refine EvP.to (index_impl l hl) (EvP.to (a := ((decide (v = 0 ∧ p = nilS ∧ (1 ≤ l.length ∧ l.length ≤ 20) ∧ ∀ n ∈ l, 0 ≤ n ∧ n ≤ 4294967295), ()), ((f, (b, (v, (d, (c, (t, (p, (l, ())))))))), ()))) ?_ (EvP.some ?_))
          · refine EvP.ite (fun hv => EvP.ite (fun hp => EvP.to (in_impl _ _ _) (EvP.ite (fun hl2 => EvP.some ?_) (fun hl2 => EvP.some ?_))) (fun hp => EvP.some ?_)) (fun hv => EvP.some ?_)
            · congr 2
              by_cases ha : ∀ n ∈ l, 0 ≤ n ∧ n ≤ 4294967295
              · rw [decide_eq_false (fun hq => hq ha), decide_eq_true ⟨hv, hp, by omega, ha⟩]; rfl
              · rw [decide_eq_true ha, decide_eq_false (fun hq => ha hq.2.2.2)]; rfl
            · rw [decide_eq_false (fun hq => hl2 (by have := hq.2.2.1; omega))]
            · rw [decide_eq_false (fun hq => hp hq.2.1)]
            · rw [decide_eq_false (fun hq => hv hq.1)]
          · congr 2
            refine dec_eq (fun hq => Or.inr (Or.inl ⟨h4, hq⟩)) (fun hq => ?_)
            rcases hq with hq | hq | hq
            · have := hq.1; omega
            · exact hq.2
            · have := hq.1; omega
        · refine EvP.ite (fun h5 => EvP.ite (fun hv => EvP.some ?_) (fun hv => EvP.some ?_)) (fun h5 => EvP.some ?_)
          · congr 2
            refine dec_eq (fun hq => Or.inr (Or.inr ⟨h5, hv, hq⟩)) (fun hq => ?_)
            rcases hq with hq | hq | hq
            · have := hq.1; omega
            · have := hq.1; omega
            · exact hq.2.2
          · rw [decide_eq_false (fun hq => ?_)]
            rcases hq with hq | hq | hq
            · have := hq.1; omega
            · have := hq.1; omega
            · exact hv hq.2.1
          · rw [decide_eq_false (fun hq => ?_)]
            rcases hq with hq | hq | hq
            · exact hf hq.1
            · exact h4 hq.1
            · exact h5 hq.1
end Go.Proofs.YtkfpfcpmaejeoaaGreat.CFnRetried
