/- A range put into good ranges, and falling ranges joined: what the code reckons. -/
import Derived.Test.YtbfkfhadcmpndaaQRngMFnRanges
import Derived.Test.YtbfkfhadcmpndaaQRngDFnRanges
set_option linter.unusedVariables false
set_option linter.unusedSectionVars false
set_option linter.unusedSimpArgs false
namespace Go.Proofs.Ytbfkfhadcmpndaa.CFnRanges
open Go Go.Proofs Go.Proofs.YtbfkfhadcmpndaaPM Go.Proofs.Ytbfkfhadcmpndaa.Q Go.Proofs.Ytbfkfhadcmpndaa.GFnRanges

abbrev PutR := (Unit × (Unit × (Bool × Unit))) × ((Int × (Int × Unit)) × (List (Int × Int) × Unit))
theorem put_l2 (x : Int × Int) (hx : OkP x) : ∀ (r l L p : List (Int × Int)), L = l ++ r → L.length ≤ 1000 → p.length ≤ l.length + 1 → (∀ y ∈ r, y.1 ≤ y.2 ∧ y.2 < x.1 - 1) →
    EvP (fun N => spec_l12Put.l0 N L (L.length : Int) true (l.length : Int) x.1 x.2 p) (· = ((((), ((), (true, ()))), ((x.1, (x.2, ())), (p ++ r, ()))) : PutR)) := by
  obtain ⟨o1, o2, o3, o4⟩ := hx
  intro r
  induction r with
  | nil =>
    intro l L p e hL hp hy
    rw [List.append_nil] at e
    subst e
    exact EvP.step (fun N => spec_l12Put.l0.eq N _ _ _ _ _ _ _) (EvP.neg (by omega) (EvP.some (by rw [List.append_nil])))
  | cons y r ih =>
    intro l L p e hL hp hy
    have hlen : L.length = l.length + (r.length + 1) := by rw [e, List.length_append, List.length_cons]
    obtain ⟨y1, y2⟩ := hy y (List.mem_cons_self ..)
    refine EvP.step (fun N => spec_l12Put.l0.eq N _ _ _ _ _ _ _) (EvP.pos (by omega) ?_)
    have hr : rdS RSh L (Int.toNat (l.length : Int)) = y := by rw [e]; exact rd_at l y r
    have hw2 : IntKind.i64.wrap ((l.length : Int) + 1) = (((l ++ [y]).length : Nat) : Int) := by rw [i64w (by omega) (by omega), List.length_append]; rfl
    have w1 : IntKind.i64.wrap (x.2 + 1) = x.2 + 1 := i64w (by omega) (by omega)
    have w2 : IntKind.i64.wrap (x.1 - 1) = x.1 - 1 := i64w (by omega) (by omega)
    simp only [hr, hw2, w1, w2]
    refine EvP.to (a := ((((), ((), (true, ()))), ((x.1, (x.2, ())), (p ++ [y], ()))) : PutR)) ?_ ?_
    · refine EvP.chk2 (by omega) (by omega) (EvP.neg (by omega) (EvP.pos (by omega) ?_))
      exact EvP.to (EvP.no rfl (EvP.some rfl)) (EvP.chk1 (by unfold most; dsimp only; omega) (EvP.some rfl))
    · refine EvP.eq (ih (l ++ [y]) L (p ++ [y]) (by rw [e, List.append_assoc]; rfl) hL (by simp; omega) fun z hz => hy z (List.mem_cons_of_mem _ hz)) ?_
      rw [List.append_assoc]; rfl
def putEnd (z : PutR) : List (Int × Int) := match z.1.2.2.1 with
  | true => z.2.2.1
  | false => z.2.2.1 ++ [(z.2.1.1, z.2.1.2.1)]
theorem put_l1 : ∀ (r l L p : List (Int × Int)) (x : Int × Int) (q : Int), L = l ++ r → L.length ≤ 1000 → p.length ≤ l.length → OkP x → rngB q r = true →
    EvP (fun N => spec_l12Put.l0 N L (L.length : Int) false (l.length : Int) x.1 x.2 p) (fun z => putEnd z = p ++ putF r x ∧ z.2.2.1.length ≤ L.length + 1) := by
  intro r
  induction r with
  | nil =>
    intro l L p x q e hL hp hx hr
    rw [List.append_nil] at e
    subst e
    exact EvP.step (fun N => spec_l12Put.l0.eq N _ _ _ _ _ _ _) (EvP.neg (by omega) (EvP.some ⟨rfl, by dsimp only; omega⟩))
  | cons y r ih =>
    intro l L p x q e hL hp hx hr
    have hlen : L.length = l.length + (r.length + 1) := by rw [e, List.length_append, List.length_cons]
    obtain ⟨⟨g1, g2, ⟨g3, g4⟩, g5⟩, hr2⟩ := rng_cons hr
    have hxx := hx
    obtain ⟨o1, o2, o3, o4⟩ := hx
    refine EvP.step (fun N => spec_l12Put.l0.eq N _ _ _ _ _ _ _) (EvP.pos (by omega) ?_)
    have hrd : rdS RSh L (Int.toNat (l.length : Int)) = y := by rw [e]; exact rd_at l y r
    have hw2 : IntKind.i64.wrap ((l.length : Int) + 1) = (((l ++ [y]).length : Nat) : Int) := by rw [i64w (by omega) (by omega), List.length_append]; rfl
    have w1 : IntKind.i64.wrap (x.2 + 1) = x.2 + 1 := i64w (by omega) (by omega)
    have w2 : IntKind.i64.wrap (x.1 - 1) = x.1 - 1 := i64w (by omega) (by omega)
    have el : (l ++ [y]).length = l.length + 1 := by rw [List.length_append]; rfl
    simp only [hrd, hw2, w1, w2]
    by_cases c1 : x.2 + 1 < y.1
    · refine EvP.to (a := ((((), ((), (false, ()))), ((x.1, (x.2, ())), (p ++ [y], ()))) : PutR)) (EvP.chk2 (by omega) (by omega) (EvP.pos c1 (EvP.chk1 (by unfold most; omega) (EvP.some rfl)))) ?_
      refine (ih (l ++ [y]) L (p ++ [y]) x y.1 (by rw [e, List.append_assoc]; rfl) hL (by simp; omega) hxx hr2).mono fun z hz => ⟨?_, hz.2⟩
      rw [hz.1, putF, if_pos c1, List.append_assoc]
      rfl
    · by_cases c2 : y.2 < x.1 - 1
      · refine EvP.to (a := ((((), ((), (true, ()))), ((x.1, (x.2, ())), ((p ++ [x]) ++ [y], ()))) : PutR)) (EvP.chk2 (by omega) (by omega) (EvP.neg c1 (EvP.pos c2 ?_))) ?_
        · refine EvP.to (EvP.yes rfl (EvP.chk1 (by unfold most; omega) (EvP.some rfl))) (EvP.chk1 (by unfold most; dsimp only; rw [List.length_append, List.length_singleton]; omega) (EvP.some rfl))
        · refine (put_l2 x hxx r (l ++ [y]) L ((p ++ [x]) ++ [y]) (by rw [e, List.append_assoc]; rfl) hL (by simp; omega) fun z hz => ?_).mono fun w hw => ?_
          · have hz2 : hasB r z.2 = true ∧ z.1 ≤ z.2 := by
              have : ∀ (r : List (Int × Int)) (q : Int), rngB q r = true → z ∈ r → z.1 ≤ z.2 := by
                intro r
                induction r with
                | nil => intro q _ h; cases h
                | cons w r ih =>
                  intro q h k
                  obtain ⟨a, b⟩ := rng_cons h
                  rcases List.mem_cons.1 k with rfl | k
                  · exact a.2.1
                  · exact ih _ b k
              have := this r _ hr2 hz
              exact ⟨has_mono hz ⟨this, Int.le_refl _⟩, this⟩
            have := rng_lt hr2 hz2.1
            exact ⟨hz2.2, by omega⟩
          · subst hw
            refine ⟨?_, by simp; omega⟩
            rw [putF, if_neg c1, if_pos c2]
            show ((p ++ [x]) ++ [y]) ++ r = _
            simp
      · refine EvP.to (a := ((((), ((), (false, ()))), (((hullF x y).1, ((hullF x y).2, ())), (p, ()))) : PutR)) (EvP.chk2 (by omega) (by omega) (EvP.neg c1 (EvP.neg c2 ?_))) ?_
        · refine EvP.to (a := (((), ((), ((), ()))), (((hullF x y).1, (x.2, ())), (p, ((y.1, (y.2, ())), ()))))) (EvP.ite (fun h => EvP.some ?_) (fun h => EvP.some ?_)) (EvP.ite (fun h => EvP.some ?_) (fun h => EvP.some ?_))
          · show _ = (_, ((if y.1 < x.1 then y.1 else x.1, _), _)); rw [if_pos h]
          · show _ = (_, ((if y.1 < x.1 then y.1 else x.1, _), _)); rw [if_neg h]
          · show _ = (_, ((_, (if x.2 < y.2 then y.2 else x.2, _)), _)); rw [if_pos h]
          · show _ = (_, ((_, (if x.2 < y.2 then y.2 else x.2, _)), _)); rw [if_neg h]
        · have hh : OkP (hullF x y) := by
            unfold hullF OkP VarN
            dsimp only
            refine ⟨?_, ?_, ?_, ?_⟩ <;> (split <;> first | omega | (split <;> omega))
          refine (ih (l ++ [y]) L p (hullF x y) y.1 (by rw [e, List.append_assoc]; rfl) hL (by simp; omega) hh hr2).mono fun z hz => ⟨?_, hz.2⟩
          rw [hz.1, putF, if_neg c1, if_neg c2]
theorem put_s (l : List (Int × Int)) (x : Int × Int) (q : Int) (hl : l.length ≤ 1000) (h : rngB q l = true) (hx : OkP x) : EvP (fun N => spec_l12Put N l x.1 x.2) (· = (((), ()), (putF l x, ()))) := by
  refine EvP.of (fun N => spec_l12Put.eq N _ _ _) (EvP.andK (put_l1 l [] l [] x q rfl hl (by simp) hx h) fun z hz => ?_)
  obtain ⟨z1, z2⟩ := hz
  unfold putEnd at z1
  rw [List.nil_append] at z1
  cases hb : z.1.2.2.1 with
  | true => rw [hb] at z1; exact EvP.no rfl (EvP.some (by dsimp only at z1; rw [← z1]))
  | false => rw [hb] at z1; exact EvP.yes rfl (EvP.chk1 (by unfold most; omega) (EvP.some (by dsimp only at z1; rw [← z1])))
end Go.Proofs.Ytbfkfhadcmpndaa.CFnRanges
