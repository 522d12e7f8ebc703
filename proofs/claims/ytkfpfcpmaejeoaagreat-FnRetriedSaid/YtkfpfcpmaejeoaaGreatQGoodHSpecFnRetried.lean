/- The reference's GoodHeader. -/
import Derived.Test.YtkfpfcpmaejeoaaGreatQHead
import Derived.Test.YtkfpfcpmaejeoaaGreatQInFnRetried
set_option linter.unusedVariables false
set_option linter.unusedSimpArgs false
namespace Go.Proofs.YtkfpfcpmaejeoaaGreat.CFnRetried
open Go Go.Proofs Go.Proofs.YtkfpfcpmaejeoaaGreatPM Go.Proofs.YtkfpfcpmaejeoaaGreat.Q Go.Proofs.YtkfpfcpmaejeoaaGreat.GFnRetried

/-- What a good header shows in its form. -/
def formOk (f v : Int) (c p : ByteArray) (l : List Int) : Prop := (((0 ≤ f ∧ f ≤ 3) ∧ (1 ≤ v ∧ v ≤ 4294967295) ∧ p ≠ nilS) ∨ (f = 4 ∧ v = 0 ∧ p = nilS ∧ (1 ≤ l.length ∧ l.length ≤ 20) ∧ ∀ n ∈ l, 0 ≤ n ∧ n ≤ 4294967295) ∨ (f = 5 ∧ v = 0 ∧ c = nilS))
instance (f v : Int) (c p : ByteArray) (l : List Int) : Decidable (formOk f v c p l) := by unfold formOk; exact inferInstance
theorem word_spec (n : Int) : EvP (fun N => spec_l2Word N n) (· = ((decide (0 ≤ n ∧ n ≤ 4294967295), ()), ())) := EvP.of (fun N => spec_l2Word.eq N _) (EvP.to (in_spec _ _ _) (EvP.some rfl))
theorem all_spec (f b v : Int) (d c t p : ByteArray) (l : List Int) (hl : l.length ≤ 2000000) : EvP (fun N => spec_GoodHeader.l3 N l (l.length : Int) 0 f b v d c t p l)
    (fun r => (∀ x, r = .inl x → x.1.1 = false ∧ ¬ ∀ n ∈ l, 0 ≤ n ∧ n ≤ 4294967295) ∧ (∀ x, r = .inr x → (∀ n ∈ l, 0 ≤ n ∧ n ≤ 4294967295) ∧ x.2.1 = (f, (b, (v, (d, (c, (t, (p, (l, ()))))))))) ) := by
  have inner : ∀ (k i : Nat), l.length ≤ i + k → (∀ n ∈ l.take i, 0 ≤ n ∧ n ≤ 4294967295) → EvP (fun N => spec_GoodHeader.l3 N l (l.length : Int) (i : Int) f b v d c t p l) (fun r => (∀ x, r = .inl x → x.1.1 = false ∧ ¬ ∀ n ∈ l, 0 ≤ n ∧ n ≤ 4294967295) ∧ (∀ x, r = .inr x → (∀ n ∈ l, 0 ≤ n ∧ n ≤ 4294967295) ∧ x.2.1 = (f, (b, (v, (d, (c, (t, (p, (l, ()))))))))) ) := by
    intro k
    induction k with
    | zero =>
      intro i h1 h2
      refine EvP.step (fun N => spec_GoodHeader.l3.eq N _ _ _ _ _ _ _ _ _ _ _) (EvP.neg (by omega) (EvP.some ⟨fun x e => (by cases e), fun x e => ?_⟩))
      rw [List.take_of_length_le (by omega)] at h2
      cases e
      exact ⟨h2, rfl⟩
    | succ k ih =>
      intro i h1 h2
      refine EvP.step (fun N => spec_GoodHeader.l3.eq N _ _ _ _ _ _ _ _ _ _ _) ?_
      by_cases hi : i < l.length
      · refine EvP.pos (by omega) (EvP.chk2 (by omega) (by omega) ?_)
        rw [Int.toNat_natCast]
        have hg : l.getD i 0 = l[i] := by rw [List.getD_eq_getElem?_getD, List.getElem?_eq_getElem hi]; rfl
        rw [hg]
        refine EvP.to (word_spec _) ?_
        refine EvP.selnb rfl (fun h => EvP.some ⟨fun x e => ?_, fun x e => (by cases e)⟩) (fun h => ?_)
        · cases e
          exact ⟨rfl, fun hall => h (hall _ (List.getElem_mem hi))⟩
        · rw [i64w (by omega) (by omega)]
          refine (ih (i + 1) (by omega) ?_)
          rw [List.take_succ_eq_append_getElem hi]
          intro n hn
          rcases List.mem_append.1 hn with hn | hn
          · exact h2 n hn
          · rw [List.mem_singleton.1 hn]; exact h
      · refine EvP.neg (by omega) (EvP.some ⟨fun x e => (by cases e), fun x e => ?_⟩)
        rw [List.take_of_length_le (by omega)] at h2
        cases e
        exact ⟨h2, rfl⟩
  exact inner l.length 0 (by omega) (fun n hn => by simp at hn)
theorem good_spec (f b v : Int) (d c t p : ByteArray) (l : List Int) (hl : l.length ≤ 2000000) : EvP (fun N => spec_GoodHeader N f b v d c t p l) (· = ((decide (GoodH f b v d c t p l), ()), ())) := by
  refine EvP.of (fun N => spec_GoodHeader.eq N _ _ _ _ _ _ _ _) ?_
  refine EvP.to (a := (((), (decide (¬ (d.size ≤ 20 ∧ c.size ≤ 20 ∧ (0 ≤ b ∧ b ≤ 15) ∧ t.size ≤ 200 ∧ p.size ≤ 1200)), ())), ((f, (b, (v, (d, (c, (t, (p, (l, ())))))))), ()))) ?_ ?_
  · refine EvP.ite (fun h => EvP.some (by rw [decide_eq_true (by omega)])) (fun h1 => EvP.ite (fun h => EvP.some (by rw [decide_eq_true (by omega)])) (fun h2 => EvP.to (in_spec _ _ _) (EvP.selnb rfl (fun h => EvP.some (by rw [decide_eq_true (by omega)])) (fun h3 => EvP.ite (fun h => EvP.some (by rw [decide_eq_true (by omega)])) (fun h4 => EvP.some ?_)))))
    congr 3
    exact decide_eq_decide.2 (by omega)
  · dsimp only
    refine EvP.ite (fun h => EvP.some ?_) (fun h => ?_)
    · rw [decide_eq_false (fun hg => h hg.1)]
    have h := Classical.not_not.1 h
    refine EvP.to (a := (((), (decide (¬ ((f = 0 ∨ t = nilS) ∧ (f = 4 ∨ l = []))), ())), ((f, (b, (v, (d, (c, (t, (p, (l, ())))))))), ()))) ?_ ?_
    · have hlen : ∀ {q : Prop}, (0 < (l.length : Int)) → ¬ (f = 4) → ¬ (q ∧ (f = 4 ∨ l = [])) := fun h0 h4 hq => by
        rcases hq.2 with h | h
        · exact h4 h
        · rw [h] at h0; simp at h0
      refine EvP.nite (fun h0 => EvP.nite (fun h1 => EvP.some ?_) (fun h1 => EvP.nite (fun h2 => EvP.some ?_) (fun h2 => EvP.some ?_))) (fun h0 => EvP.nite (fun h2 => EvP.some ?_) (fun h2 => EvP.some ?_))
      · rw [decide_eq_true (p := ¬ ((f = 0 ∨ t = nilS) ∧ (f = 4 ∨ l = []))) (fun hq => hq.1.elim h0 h1)]
      · congr 3
        refine dec_eq (fun h3 => hlen h3 h2) (fun hq => ?_)
        have : ¬ (l = []) := fun hn => hq ⟨.inr h1, .inr hn⟩
        have : l.length ≠ 0 := fun hn => this (List.eq_nil_of_length_eq_zero hn)
        omega
      · rw [decide_eq_false (fun hq => hq ⟨.inr h1, .inl h2⟩)]
      · congr 3
        refine dec_eq (fun h3 => hlen h3 h2) (fun hq => ?_)
        have : ¬ (l = []) := fun hn => hq ⟨.inl h0, .inr hn⟩
        have : l.length ≠ 0 := fun hn => this (List.eq_nil_of_length_eq_zero hn)
        omega
      · rw [decide_eq_false (fun hq => hq ⟨.inl h0, .inl h2⟩)]
    · dsimp only
      refine EvP.ite (fun h2 => EvP.some ?_) (fun h2 => ?_)
      · rw [decide_eq_false (fun hg => h2 ⟨hg.2.1, hg.2.2.1⟩)]
      have h2 := Classical.not_not.1 h2
      have hG2 : decide (GoodH f b v d c t p l) = decide (formOk f v c p l) := decide_eq_decide.2 ⟨fun hg => hg.2.2.2, fun hg => ⟨h, h2.1, h2.2, hg⟩⟩
      rw [hG2]
      have hf4 : f = 4 → decide (v = 0 ∧ p = nilS ∧ (1 ≤ l.length ∧ l.length ≤ 20) ∧ ∀ n ∈ l, 0 ≤ n ∧ n ≤ 4294967295) = decide (formOk f v c p l) := fun h4 => by
        refine dec_eq (fun hq => Or.inr (Or.inl ⟨h4, hq⟩)) (fun hq => ?_)
        rcases hq with hq | hq | hq
        · have := hq.1; omega
        · exact hq.2
        · have := hq.1; omega
      have hf0 : (0 ≤ f ∧ f ≤ 3) → EvP (fun N => spec_l1In N v 1 4294967295) (fun r => ∀ q : Bool, q = (if r.1.1 = true then !(decide (p = nilS)) else false) → q = decide (formOk f v c p l)) := fun hf => by
        refine (in_spec _ _ _).mono ?_
        rintro r rfl q rfl
        dsimp only
        by_cases hv : 1 ≤ v ∧ v ≤ 4294967295
        · rw [decide_eq_true hv, if_pos rfl]
          by_cases hp : p = nilS
          · rw [decide_eq_true hp, decide_eq_false (fun hq => ?_)]; rfl
            rcases hq with hq | hq | hq
            · exact hq.2.2 hp
            · have := hq.1; omega
            · have := hq.1; omega
          · rw [decide_eq_false hp, decide_eq_true (show formOk f v c p l from Or.inl ⟨hf, hv, hp⟩)]; rfl
        · rw [decide_eq_false hv, if_neg (by simp), decide_eq_false (fun hq => ?_)]
          rcases hq with hq | hq | hq
          · exact hv hq.2.1
          · have := hq.1; omega
          · have := hq.1; omega
      refine EvP.andK (Q := fun r => (∀ x, r = .inl x → x.1.1 = decide (formOk f v c p l)) ∧ (∀ x, r = .inr x → (¬ (0 ≤ f ∧ f ≤ 3) ∧ ¬ f = 4) ∧ x.2.1 = (f, (b, (v, (d, (c, (t, (p, (l, ()))))))))) ) ?_ ?_
      · have partA : (0 ≤ f ∧ f ≤ 3) → EvP (fun N => andK (andK (spec_l1In N v 1 4294967295) fun u4 => sel u4.1.1 (some ((((!(decide (p = (⟨#[]⟩ : ByteArray)))), ()), ((f, (b, (v, (d, (c, (t, (p, (l, ())))))))), ())) : (Bool × Unit) × (Hd × Unit))) (some (((false, ()), ((f, (b, (v, (d, (c, (t, (p, (l, ())))))))), ()))))) fun j5 =>
            some ((.inl ((j5.1.1, ()), ((j5.2.1.1, (j5.2.1.2.1, (j5.2.1.2.2.1, (j5.2.1.2.2.2.1, (j5.2.1.2.2.2.2.1, (j5.2.1.2.2.2.2.2.1, (j5.2.1.2.2.2.2.2.2.1, (j5.2.1.2.2.2.2.2.2.2.1, ())))))))), ())) : ((Bool × Unit) × (Hd × Unit)) ⊕ ((Unit × Unit) × (Hd × Unit)))))
            (fun r => (∀ x, r = .inl x → x.1.1 = decide (formOk f v c p l)) ∧ (∀ x, r = .inr x → (¬ (0 ≤ f ∧ f ≤ 3) ∧ ¬ f = 4) ∧ x.2.1 = (f, (b, (v, (d, (c, (t, (p, (l, ()))))))))) ) := fun hf => by
          refine EvP.andK (Q := fun j => j.1.1 = decide (formOk f v c p l)) ?_ (fun j hj => EvP.some ⟨fun x e => (by cases e; exact hj), fun x e => by cases e⟩)
          refine EvP.andK (hf0 hf) ?_
          intro u hu
          refine EvP.sel (fun hb => EvP.some (hu _ ?_)) (fun hb => EvP.some (hu _ ?_))
          · rw [if_pos hb]
          · rw [if_neg (by rw [hb]; simp)]
        refine EvP.ite (fun a0 => EvP.pos a0 (partA (by omega))) (fun a0 => EvP.ite (fun a1 => EvP.pos a1 (partA (by omega))) (fun a1 => EvP.ite (fun a2 => EvP.pos a2 (partA (by omega))) (fun a2 => EvP.ite (fun a3 => partA (by omega)) (fun a3 => EvP.ite (fun a4 => ?_) (fun a4 => EvP.some ⟨fun x e => (by cases e), fun x e => by cases e; exact ⟨⟨by omega, a4⟩, rfl⟩⟩)))))
        refine EvP.andK (all_spec f b v d c t p l hl) ?_
        rintro r ⟨k1, k2⟩
        refine EvP.or (fun x e => EvP.some ⟨fun y e' => ?_, fun y e' => by cases e'⟩) (fun x e => ?_)
        · cases e'
          obtain ⟨k3, k4⟩ := k1 x e
          dsimp only
          rw [k3, ← hf4 a4, decide_eq_false (fun hq => k4 hq.2.2.2)]
        · obtain ⟨k3, k4⟩ := k2 x e
          rw [k4]
          dsimp only
          refine EvP.to (a := ((decide (v = 0 ∧ p = nilS ∧ (1 ≤ l.length ∧ l.length ≤ 20) ∧ ∀ n ∈ l, 0 ≤ n ∧ n ≤ 4294967295), ()), ((f, (b, (v, (d, (c, (t, (p, (l, ())))))))), ()))) ?_ (EvP.some ⟨fun y e' => ?_, fun y e' => by cases e'⟩)
          · refine EvP.ite (fun hv => EvP.ite (fun hp => EvP.to (in_spec _ _ _) (EvP.some ?_)) (fun hp => EvP.some ?_)) (fun hv => EvP.some ?_)
            · congr 2
              exact dec_eq (fun hq => ⟨hv, hp, by omega, k3⟩) (fun hq => by have := hq.2.2.1; omega)
            · rw [decide_eq_false (fun hq => hp hq.2.1)]
            · rw [decide_eq_false (fun hq => hv hq.1)]
          · cases e'
            exact hf4 a4
      · rintro r ⟨k1, k2⟩
        refine EvP.or (fun x e => EvP.some ?_) (fun x e => ?_)
        · rw [k1 x e]
        · obtain ⟨⟨k3, k4⟩, k5⟩ := k2 x e
          rw [k5]
          dsimp only
          refine EvP.ite (fun h5 => EvP.ite (fun hc => EvP.some ?_) (fun hc => EvP.some ?_)) (fun h5 => EvP.some ?_)
          · congr 2
            refine dec_eq (fun hq => Or.inr (Or.inr ⟨h5, hq, hc⟩)) (fun hq => ?_)
            rcases hq with hq | hq | hq
            · exact absurd hq.1 k3
            · exact absurd hq.1 k4
            · exact hq.2.1
          · rw [decide_eq_false (fun hq => ?_)]
            rcases hq with hq | hq | hq
            · exact k3 hq.1
            · exact k4 hq.1
            · exact hc hq.2.2
          · rw [decide_eq_false (fun hq => ?_)]
            rcases hq with hq | hq | hq
            · exact k3 hq.1
            · exact k4 hq.1
            · exact h5 hq.1
end Go.Proofs.YtkfpfcpmaejeoaaGreat.CFnRetried
