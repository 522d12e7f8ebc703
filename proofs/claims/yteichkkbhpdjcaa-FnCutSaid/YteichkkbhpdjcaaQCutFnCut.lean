/- Datagrams cut into packets. -/
import Derived.Test.YteichkkbhpdjcaaQReadHImplFnCut
import Derived.Test.YteichkkbhpdjcaaQReadHSpecFnCut
set_option linter.unusedVariables false
set_option linter.unusedSimpArgs false
namespace Go.Proofs.Yteichkkbhpdjcaa.CFnCut
open Go Go.Proofs Go.Proofs.YteichkkbhpdjcaaPM Go.Proofs.Yteichkkbhpdjcaa.Q Go.Proofs.Yteichkkbhpdjcaa.GFnCut

/-- The packets of a datagram. -/
def cutF (short : Int) : Nat → ByteArray → Option (List ByteArray)
  | 0, s => if s.size = 0 then some [] else none
  | k + 1, s => if s.size = 0 then some [] else (readH s short).bind fun x => (cutF short k (s.extract x.2.toNat s.size)).map (s.extract 0 x.2.toNat :: ·)
theorem cutF_len {short : Int} : ∀ {k : Nat} {s : ByteArray} {l : List ByteArray}, cutF short k s = some l → l.length ≤ k := by
  intro k
  induction k with
  | zero =>
    intro s l h
    unfold cutF at h
    split at h
    · cases h; exact Nat.le_refl _
    · cases h
  | succ k ih =>
    intro s l h
    unfold cutF at h
    split at h
    · cases h; exact Nat.zero_le _
    · obtain ⟨x, _, h2⟩ := Option.bind_eq_some_iff.1 h
      obtain ⟨m, h3, rfl⟩ := Option.map_eq_some_iff.1 h2
      have := ih h3
      simp only [List.length_cons]
      omega
theorem cut_impl_l {short : Int} (h0 : 0 ≤ short) (h20 : short ≤ 20) : ∀ (k : Nat) (s : ByteArray) (p : List ByteArray), s.size ≤ k → p.length + k ≤ 900000 →
    EvP (fun N => impl_CutDatagram.l0 N short s p) (fun r => match cutF short k s with | none => r = .inl (((), (false, ())), ()) | some l => r = .inr (((), ()), (p ++ l, ()))) := by
  intro k
  induction k with
  | zero =>
    intro s p hs hp
    refine EvP.step (fun N => impl_CutDatagram.l0.eq N _ _ _) (EvP.nneg (size_zero (by omega)) (EvP.some ?_))
    unfold cutF
    rw [if_pos (by omega)]
    simp
  | succ k ih =>
    intro s p hs hp
    refine EvP.step (fun N => impl_CutDatagram.l0.eq N _ _ _) ?_
    unfold cutF
    by_cases hz : s.size = 0
    · rw [if_pos hz]
      exact EvP.nneg (size_zero hz) (EvP.some (by simp))
    · rw [if_neg hz]
      refine EvP.npos (fun h => hz (by rw [h]; rfl)) (EvP.andK (ReadHeader_impl s (by omega) short h0 h20) ?_)
      intro u hu
      cases hr : readH s short with
      | none =>
        rw [hr] at hu
        exact EvP.npos hu.1 (EvP.some rfl)
      | some x =>
        rw [hr] at hu
        obtain rfl : u = _ := hu
        have hx := readH_range hr
        refine EvP.nneg rfl (EvP.chk2 (by dsimp only; omega) (by dsimp only; omega) (EvP.chk1 (show _ < (68719476736 : Nat) by omega) (EvP.chk3 (by dsimp only; omega) (by dsimp only; omega) (Int.le_refl _) ?_)))
        dsimp only
        rw [Int.toNat_natCast]
        refine (ih (s.extract x.2.toNat s.size) (p ++ [s.extract 0 x.2.toNat]) (by rw [extract_size (Nat.le_refl _)]; omega) (by simp; omega)).mono ?_
        intro r hr2
        show match (cutF short k (s.extract x.2.toNat s.size)).map (s.extract 0 x.2.toNat :: ·) with | none => r = _ | some l => r = _
        cases hc : cutF short k (s.extract x.2.toNat s.size) with
        | none => rw [hc] at hr2; exact hr2
        | some l => rw [hc] at hr2; rw [hr2]; simp
theorem cut_spec_l {short : Int} (h0 : 0 ≤ short) (h20 : short ≤ 20) : ∀ (k : Nat) (s : ByteArray) (p : List ByteArray), s.size ≤ k → p.length + k ≤ 900000 →
    EvP (fun N => spec_l2Cut.l0 N short s p) (fun r => match cutF short k s with | none => r = .inl (((), (false, ())), ()) | some l => r = .inr (((), ()), (p ++ l, ()))) := by
  intro k
  induction k with
  | zero =>
    intro s p hs hp
    refine EvP.step (fun N => spec_l2Cut.l0.eq N _ _ _) (EvP.neg (by omega) (EvP.some ?_))
    unfold cutF
    rw [if_pos (by omega)]
    simp
  | succ k ih =>
    intro s p hs hp
    refine EvP.step (fun N => spec_l2Cut.l0.eq N _ _ _) ?_
    unfold cutF
    by_cases hz : s.size = 0
    · rw [if_pos hz]
      exact EvP.neg (by omega) (EvP.some (by simp))
    · rw [if_neg hz]
      refine EvP.pos (by omega) (EvP.andK (Header_spec s (by omega) short h0 h20) ?_)
      intro u hu
      cases hr : readH s short with
      | none =>
        rw [hr] at hu
        exact EvP.npos hu.1 (EvP.some rfl)
      | some x =>
        rw [hr] at hu
        obtain rfl : u = _ := hu
        have hx := readH_range hr
        refine EvP.nneg rfl (EvP.chk2 (by dsimp only; omega) (by dsimp only; omega) (EvP.chk1 (show _ < (68719476736 : Nat) by omega) (EvP.chk3 (by dsimp only; omega) (by dsimp only; omega) (Int.le_refl _) ?_)))
        dsimp only
        rw [Int.toNat_natCast]
        refine (ih (s.extract x.2.toNat s.size) (p ++ [s.extract 0 x.2.toNat]) (by rw [extract_size (Nat.le_refl _)]; omega) (by simp; omega)).mono ?_
        intro r hr2
        show match (cutF short k (s.extract x.2.toNat s.size)).map (s.extract 0 x.2.toNat :: ·) with | none => r = _ | some l => r = _
        cases hc : cutF short k (s.extract x.2.toNat s.size) with
        | none => rw [hc] at hr2; exact hr2
        | some l => rw [hc] at hr2; rw [hr2]; simp
/-- What both packages answer. -/
def cutOf (s : ByteArray) (short : Int) : (Unit × (Bool × Unit)) × (List ByteArray × Unit) :=
  if s.size ≤ 1500 ∧ (0 ≤ short ∧ short ≤ 20) then (match cutF short s.size s with | none => (((), (false, ())), ([], ())) | some l => (((), (true, ())), (l, ()))) else (((), (false, ())), ([], ()))
theorem cutOf_len (s : ByteArray) (short : Int) : (cutOf s short).2.1.length ≤ 1500 := by
  unfold cutOf
  split
  · split
    · exact Nat.zero_le _
    · rename_i h _ l hl
      have := cutF_len hl
      dsimp only
      omega
  · exact Nat.zero_le _
theorem Cut_impl (s : ByteArray) (short : Int) : EvP (fun N => impl_CutDatagram N s short) (· = cutOf s short) := by
  refine EvP.of (fun N => impl_CutDatagram.eq N _ _) (EvP.to (a := ((decide (¬ (s.size ≤ 1500 ∧ (0 ≤ short ∧ short ≤ 20))), ()), ())) ?_ ?_)
  · refine EvP.ite (fun h => EvP.some (by rw [decide_eq_true (by omega)])) (fun h => EvP.to (EvP.of (fun N => impl_shortOk.eq N _) (EvP.to (in_impl _ _ _) (EvP.some rfl))) (EvP.some ?_))
    congr 2
    dsimp only
    by_cases h2 : 0 ≤ short ∧ short ≤ 20
    · rw [decide_eq_true h2, decide_eq_false (fun hq => hq ⟨by omega, h2⟩)]; rfl
    · rw [decide_eq_false h2, decide_eq_true (show ¬ (s.size ≤ 1500 ∧ (0 ≤ short ∧ short ≤ 20)) from fun hq => h2 hq.2)]; rfl
  · unfold cutOf
    refine EvP.ite (fun h => ?_) (fun h => ?_)
    · rw [if_neg h]
      exact EvP.some rfl
    · have h := Classical.not_not.1 h
      rw [if_pos h]
      refine EvP.andK (cut_impl_l h.2.1 h.2.2 s.size s [] (Nat.le_refl _) (by simp; omega)) ?_
      intro r hr
      cases hc : cutF short s.size s with
      | none =>
        rw [hc] at hr
        obtain rfl : r = _ := hr
        exact EvP.some rfl
      | some l =>
        rw [hc] at hr
        obtain rfl : r = _ := hr
        exact EvP.some (by simp)
theorem Cut_spec (s : ByteArray) (short : Int) : EvP (fun N => spec_CutDatagram N s short) (· = cutOf s short) := by
  refine EvP.of (fun N => spec_CutDatagram.eq N _ _) (EvP.to (a := ((decide (¬ (s.size ≤ 1500 ∧ (0 ≤ short ∧ short ≤ 20))), ()), ())) ?_ ?_)
  · refine EvP.ite (fun h => EvP.some (by rw [decide_eq_true (by omega)])) (fun h => EvP.to (in_spec _ _ _) (EvP.some ?_))
    congr 2
    dsimp only
    by_cases h2 : 0 ≤ short ∧ short ≤ 20
    · rw [decide_eq_true h2, decide_eq_false (fun hq => hq ⟨by omega, h2⟩)]; rfl
    · rw [decide_eq_false h2, decide_eq_true (show ¬ (s.size ≤ 1500 ∧ (0 ≤ short ∧ short ≤ 20)) from fun hq => h2 hq.2)]; rfl
  · unfold cutOf
    refine EvP.ite (fun h => ?_) (fun h => ?_)
    · rw [if_neg h]
      exact EvP.some rfl
    · have h := Classical.not_not.1 h
      rw [if_pos h]
      refine EvP.andK (EvP.of (fun N => spec_l2Cut.eq N _ _) (EvP.andK (Q := fun r => match cutF short s.size s with | none => r = .inl (((), (false, ())), ()) | some l => r = .inr (((), ()), ([] ++ l, ()))) (cut_spec_l h.2.1 h.2.2 s.size s [] (Nat.le_refl _) (by simp; omega)) (P := fun r => r = (match cutF short s.size s with | none => (((), (false, ())), ([], ())) | some l => (((), (true, ())), (l, ())))) ?_)) ?_
      · intro r hr
        cases hc : cutF short s.size s with
        | none =>
          rw [hc] at hr
          obtain rfl : r = _ := hr
          exact EvP.some rfl
        | some l =>
          rw [hc] at hr
          obtain rfl : r = _ := hr
          exact EvP.some (by simp)
      · intro r hr
        rw [hr]
        cases cutF short s.size s <;> exact EvP.some rfl
end Go.Proofs.Yteichkkbhpdjcaa.CFnCut
