/- Capsules: what both packages read of a text. -/
import Derived.Test.YtdmnpmhdindabaaQTakeNumFnCapsules
import Derived.Test.YtdmnpmhdindabaaQVarSpecFnCapsules
set_option linter.unusedVariables false
set_option linter.unusedSimpArgs false
namespace Go.Proofs.Ytdmnpmhdindabaa.CFnCapsules
open Go Go.Proofs Go.Proofs.YtdmnpmhdindabaaPM Go.Proofs.Ytdmnpmhdindabaa.Q Go.Proofs.Ytdmnpmhdindabaa.GFnCapsules

/-- What is read from t on, which begins at p, behind the capsules of l. -/
def Cap : Nat → Int → ByteArray → List (Int × ByteArray) → List (Int × ByteArray) × Int × Bool
  | 0, p, _, l => (l, p, true)
  | f + 1, p, t, l => match rdNum t with
    | none => (l, p, true)
    | some x => match rdNum x.2 with
      | none => (l, p, true)
      | some y => if 200 < y.1 then ([], 0, false) else match tk y.1.toNat y.2 with
        | none => (l, p, true)
        | some z => if l.length = 30 then ([], 0, false) else Cap f (p + ((t.size : Int) - (z.2.size : Int))) z.2 (l ++ [(x.1, z.1)])
theorem Cap_length : ∀ (f : Nat) (p : Int) (t : ByteArray) (l : List (Int × ByteArray)), l.length ≤ 30 → (Cap f p t l).1.length ≤ 30
  | 0, _, _, _, h => h
  | f + 1, p, t, l, h => by
    rw [Cap]
    split
    · exact h
    · split
      · exact h
      · split
        · simp
        · split
          · exact h
          · split
            · simp
            · exact Cap_length f _ _ _ (by rw [List.length_append, List.length_singleton]; omega)
theorem cap_impl {s : ByteArray} (hs : s.size ≤ 1500) : ∀ (f : Nat) (t : ByteArray) (l : List (Int × ByteArray)), t.size < f → t.size ≤ s.size → l.length ≤ 30 →
    EvP (fun N => impl_ReadCapsules.l0 N s t false l) (fun r => (r.2.2.1, r.1.2.1, r.1.2.2.1) = Cap f ((s.size : Int) - (t.size : Int)) t l) := by
  intro f
  induction f with
  | zero => intro t l h; omega
  | succ f ih =>
    intro t l h1 h2 h3
    refine EvP.step (fun N => impl_ReadCapsules.l0.eq N _ _ _ _) (EvP.andK (number_impl t false) ?_)
    rintro u ⟨a1, r1, r2, y1⟩
    rw [Cap]
    refine EvP.andK (number_impl _ _) ?_
    rintro v ⟨b1, s1, s2, y2⟩
    rw [i64w (n := (s.size : Int) - (t.size : Int)) (by omega) (by omega)]
    have lost : v.2.1.2.1 = true → EvP (fun N => andK (α := ((Unit × (Unit × (Bool × Unit))) × ((ByteArray × (Bool × Unit)) × ((List (Int × ByteArray)) × Unit)))) (
        sel (!v.2.1.2.1) (some ((((), ((), ((decide (200 < v.1.1)), ()))), ((v.2.1.1, (v.2.1.2.1, ())), (l, ()))))) (some ((((), ((), (false, ()))), ((v.2.1.1, (v.2.1.2.1, ())), (l, ())))))) fun j3 =>
       sel j3.1.2.2.1 (some ((((), (0, (false, ()))), ((j3.2.1.1, (j3.2.1.2.1, ())), ([], ()))) : (Unit × (Int × (Bool × Unit))) × ((ByteArray × (Bool × Unit)) × (List (Int × ByteArray) × Unit))))
        (andK (impl_cursor_take N v.1.1 j3.2.1.1 j3.2.1.2.1) fun u4 =>
        sel u4.2.1.2.1 (some ((((), ((s.size : Int) - (t.size : Int), (true, ()))), ((u4.2.1.1, (u4.2.1.2.1, ())), (j3.2.2.1, ())))))
         (chk (decide (j3.2.2.1.length + 1 < most)) (
         sel (decide (30 < ((j3.2.2.1 ++ [(u.1.1, u4.1.1)]).length : Int))) (some ((((), (0, (false, ()))), ((u4.2.1.1, (u4.2.1.2.1, ())), ([], ())))))
          (impl_ReadCapsules.l0 N s u4.2.1.1 u4.2.1.2.1 (j3.2.2.1 ++ [(u.1.1, u4.1.1)])))))) (fun r => (r.2.2.1, r.1.2.1, r.1.2.2.1) = (l, (s.size : Int) - (t.size : Int), true)) := by
      intro hv
      rw [hv]
      refine EvP.to (a := (((), ((), (false, ()))), ((v.2.1.1, (true, ())), (l, ())))) (EvP.no rfl (EvP.some rfl)) (EvP.no rfl (EvP.andK (take_impl s1 _ _) ?_))
      rintro w ⟨c1, _⟩
      have c2 := Run.lost c1
      rw [cst_none] at c2
      exact EvP.yes c2 (EvP.some rfl)
    cases hb : rdNum t with
    | none =>
      have a2 := Run.fails (s := t) a1 hb
      rw [cst_none] at a2
      rw [a2] at b1
      have b2 := Run.lost b1
      rw [cst_none] at b2
      exact lost b2
    | some x =>
      obtain ⟨k, t1⟩ := x
      obtain ⟨a2, a3⟩ := Run.gives (s := t) a1 hb
      rw [cst_some] at a3
      obtain ⟨a3, a4⟩ := a3
      have hk := rdNum_size hb
      rw [a3, a4] at b1
      dsimp only
      cases hc : rdNum t1 with
      | none =>
        have b2 := Run.fails (s := t1) b1 hc
        rw [cst_none] at b2
        exact lost b2
      | some y =>
        obtain ⟨n, t2⟩ := y
        obtain ⟨b2, b3⟩ := Run.gives (s := t1) b1 hc
        rw [cst_some] at b3
        obtain ⟨b3, b4⟩ := b3
        have hn := rdNum_size hc
        dsimp only
        rw [b3, b4, b2]
        refine EvP.to (a := (((), ((), ((decide (200 < n)), ()))), ((t2, (false, ())), (l, ())))) (EvP.yes rfl (EvP.some rfl)) ?_
        refine EvP.ite (fun h4 => ?_) (fun h4 => ?_)
        · rw [if_pos h4]; exact EvP.some rfl
        rw [if_neg h4]
        refine EvP.andK (take_impl hn.1 _ _) ?_
        rintro w ⟨c1, _⟩
        cases hd : tk n.toNat t2 with
        | none =>
          have c2 := Run.fails (s := t2) c1 hd
          rw [cst_none] at c2
          exact EvP.yes c2 (EvP.some rfl)
        | some z =>
          obtain ⟨d, t3⟩ := z
          obtain ⟨c2, c3⟩ := Run.gives (s := t2) c1 hd
          rw [cst_some] at c3
          obtain ⟨c3, c4⟩ := c3
          have hz := tk_size hd
          dsimp only
          rw [c3, c4, c2, a2]
          refine EvP.no rfl (EvP.chk1 (show _ < (68719476736 : Nat) by omega) ?_)
          refine EvP.ite (fun h5 => ?_) (fun h5 => ?_)
          · rw [if_pos (by rw [List.length_append, List.length_singleton] at h5; omega)]; exact EvP.some rfl
          rw [List.length_append, List.length_singleton] at h5
          rw [if_neg (by omega)]
          have := ih t3 (l ++ [(k, d)]) (by omega) (by omega) (by rw [List.length_append, List.length_singleton]; omega)
          rw [show (s.size : Int) - (t3.size : Int) = (s.size : Int) - (t.size : Int) + ((t.size : Int) - (t3.size : Int)) by omega] at this
          exact this
/-- What both read of a whole text. -/
def Caps (s : ByteArray) : List (Int × ByteArray) × Int × Bool := if 1500 < s.size then ([], 0, false) else Cap 1501 0 s []
theorem Caps_length (s : ByteArray) : (Caps s).1.length ≤ 30 := by
  unfold Caps
  split
  · simp
  · exact Cap_length _ _ _ _ (by simp)
theorem ReadCapsules_impl (s : ByteArray) : EvP (fun k => impl_ReadCapsules k s) (· = (((), ((Caps s).2.1, ((Caps s).2.2, ()))), ((Caps s).1, ()))) := by
  unfold Caps
  refine EvP.of (fun N => impl_ReadCapsules.eq N _) (EvP.ite (fun h => ?_) (fun h => ?_))
  · rw [if_pos (by omega)]; exact EvP.some rfl
  · rw [if_neg (by omega)]
    have := cap_impl (s := s) (by omega) 1501 s [] (by omega) (Nat.le_refl _) (by simp)
    rw [show (s.size : Int) - (s.size : Int) = 0 by omega] at this
    refine EvP.andK this fun r hr => EvP.some ?_
    rw [← hr]
theorem extract_behind (s : ByteArray) (p q : Nat) (h : p ≤ s.size) : (s.extract p s.size).extract q (s.extract p s.size).size = s.extract (p + q) s.size := by
  apply bytesL_inj
  rw [bytesL_extract, bytesL_extract, bytesL_extract, List.take_of_length_le (i := s.size) (by rw [bytesL_len]; exact Nat.le_refl _), List.take_of_length_le (by rw [List.length_drop, bytesL_len, extract_size (Nat.le_refl _)]; exact Nat.le_refl _), List.drop_drop]
theorem extract_part (s : ByteArray) (p n : Nat) (h : p + n ≤ s.size) : (s.extract p s.size).extract 0 n = s.extract p (p + n) := by
  apply bytesL_inj
  rw [bytesL_extract, bytesL_extract, bytesL_extract, List.take_of_length_le (i := s.size) (by rw [bytesL_len]; exact Nat.le_refl _), List.drop_zero, List.take_drop]
theorem rdNum_none {t : ByteArray} (h : (TakeV t).2 = 0) : rdNum t = none := by unfold rdNum; rw [if_pos h]
theorem rdNum_some {t : ByteArray} (h : ¬ (TakeV t).2 = 0) : rdNum t = some ((TakeV t).1, t.extract (TakeV t).2.toNat t.size) := by unfold rdNum; rw [if_neg h]
theorem cap_spec {s : ByteArray} (hs : s.size ≤ 1500) : ∀ (f : Nat) (p : Nat) (l : List (Int × ByteArray)), p ≤ s.size → s.size - p < f → l.length ≤ 30 →
    EvP (fun N => spec_l16Read.l0 N s (p : Int) l) (fun r => (r.2.1, r.1.2.1, r.1.2.2.1) = Cap f (p : Int) (s.extract p s.size) l) := by
  intro f
  induction f with
  | zero => intro p l h1 h2; omega
  | succ f ih =>
    intro p l h1 h2 h3
    rw [Cap]
    refine EvP.step (fun N => spec_l16Read.l0.eq N _ _ _) (EvP.chk3 (by omega) (by omega) (Int.le_refl _) ?_)
    rw [Int.toNat_natCast, Int.toNat_natCast]
    have hts : (s.extract p s.size).size = s.size - p := extract_size (Nat.le_refl _)
    have hb1 := fun q => extract_behind s p q h1
    generalize ht : s.extract p s.size = t at *
    obtain ⟨r1, r2, r3, r4, r5⟩ := TakeV_range t
    refine EvP.to (Take_spec t) ?_
    refine EvP.ite (fun c1 => ?_) (fun c1 => ?_)
    · rw [rdNum_none c1]; exact EvP.some rfl
    rw [rdNum_some c1]
    dsimp only
    dsimp only at c1
    rw [i64w (n := (p : Int) + (TakeV t).2) (by omega) (by omega)]
    refine EvP.chk3 (by omega) (by omega) (Int.le_refl _) ?_
    have e1 : s.extract ((p : Int) + (TakeV t).2).toNat s.size = t.extract (TakeV t).2.toNat t.size := by
      rw [hb1]; exact congrArg (fun z => s.extract z s.size) (by omega)
    rw [e1]
    have ht1 : (t.extract (TakeV t).2.toNat t.size).size = t.size - (TakeV t).2.toNat := extract_size (Nat.le_refl _)
    have hb2 : ∀ q, (t.extract (TakeV t).2.toNat t.size).extract q (t.extract (TakeV t).2.toNat t.size).size = s.extract (p + (TakeV t).2.toNat + q) s.size := by
      intro q
      rw [hb1]
      exact extract_behind s _ q (by omega)
    have hp2 : ∀ n, p + (TakeV t).2.toNat + n ≤ s.size → (t.extract (TakeV t).2.toNat t.size) = s.extract (p + (TakeV t).2.toNat) s.size := fun n _ => hb1 _
    generalize t.extract (TakeV t).2.toNat t.size = t1 at *
    obtain ⟨q1, q2, q3, q4, q5⟩ := TakeV_range t1
    refine EvP.to (Take_spec t1) ?_
    refine EvP.ite (fun c2 => ?_) (fun c2 => ?_)
    · rw [rdNum_none c2]; exact EvP.some rfl
    rw [rdNum_some c2]
    dsimp only
    dsimp only at c2
    refine EvP.ite (fun c3 => ?_) (fun c3 => ?_)
    · rw [if_pos c3]; exact EvP.some rfl
    rw [if_neg c3, i64w (n := (p : Int) + (TakeV t).2 + (TakeV t1).2) (by omega) (by omega), i64w (n := (s.size : Int) - ((p : Int) + (TakeV t).2 + (TakeV t1).2)) (by omega) (by omega)]
    have ht2 : (t1.extract (TakeV t1).2.toNat t1.size).size = t1.size - (TakeV t1).2.toNat := extract_size (Nat.le_refl _)
    refine EvP.ite (fun c4 => ?_) (fun c4 => ?_)
    · rw [show tk (TakeV t1).1.toNat (t1.extract (TakeV t1).2.toNat t1.size) = none by unfold tk; rw [if_pos (by omega)]]
      exact EvP.some rfl
    rw [show tk (TakeV t1).1.toNat (t1.extract (TakeV t1).2.toNat t1.size) = some ((t1.extract (TakeV t1).2.toNat t1.size).extract 0 (TakeV t1).1.toNat, (t1.extract (TakeV t1).2.toNat t1.size).extract (TakeV t1).1.toNat (t1.extract (TakeV t1).2.toNat t1.size).size) by unfold tk; rw [if_neg (by omega)]]
    dsimp only
    refine EvP.ite (fun c5 => ?_) (fun c5 => ?_)
    · rw [if_pos (by omega)]; exact EvP.some rfl
    rw [if_neg (by omega), i64w (n := (p : Int) + (TakeV t).2 + (TakeV t1).2 + (TakeV t1).1) (by omega) (by omega)]
    refine EvP.chk3 (by omega) (by omega) (by omega) (EvP.chk1 (show _ < (68719476736 : Nat) by omega) ?_)
    have e2 : t1.extract (TakeV t1).2.toNat t1.size = s.extract (p + (TakeV t).2.toNat + (TakeV t1).2.toNat) s.size := hb2 _
    have e3 : s.extract ((p : Int) + (TakeV t).2 + (TakeV t1).2).toNat ((p : Int) + (TakeV t).2 + (TakeV t1).2 + (TakeV t1).1).toNat = (t1.extract (TakeV t1).2.toNat t1.size).extract 0 (TakeV t1).1.toNat := by
      rw [e2, extract_part _ _ _ (by omega)]; congr 1 <;> omega
    have e4 : (t1.extract (TakeV t1).2.toNat t1.size).extract (TakeV t1).1.toNat (t1.extract (TakeV t1).2.toNat t1.size).size = s.extract ((p : Int) + (TakeV t).2 + (TakeV t1).2 + (TakeV t1).1).toNat s.size := by
      rw [e2, extract_behind _ _ _ (by omega)]
      exact congrArg (fun z => s.extract z s.size) (by omega)
    rw [e3, e4]
    have e5 : (s.extract ((p : Int) + (TakeV t).2 + (TakeV t1).2 + (TakeV t1).1).toNat s.size).size = s.size - ((p : Int) + (TakeV t).2 + (TakeV t1).2 + (TakeV t1).1).toNat := extract_size (Nat.le_refl _)
    have := ih ((p : Int) + (TakeV t).2 + (TakeV t1).2 + (TakeV t1).1).toNat (l ++ [((TakeV t).1, (t1.extract (TakeV t1).2.toNat t1.size).extract 0 (TakeV t1).1.toNat)]) (by omega) (by omega) (by rw [List.length_append, List.length_singleton]; omega)
    rw [Int.toNat_of_nonneg (by omega)] at this
    rw [e5, show (p : Int) + ((t.size : Int) - ((s.size - ((p : Int) + (TakeV t).2 + (TakeV t1).2 + (TakeV t1).1).toNat : Nat) : Int)) = (p : Int) + (TakeV t).2 + (TakeV t1).2 + (TakeV t1).1 by omega]
    exact this
theorem read16_spec (s : ByteArray) (hs : s.size ≤ 1500) : EvP (fun k => spec_l16Read k s) (· = (((), ((Caps s).2.1, ((Caps s).2.2, ()))), ((Caps s).1, ()))) := by
  unfold Caps
  rw [if_neg (by omega)]
  have := cap_spec hs 1501 0 [] (by omega) (by omega) (by simp)
  rw [extract_all] at this
  refine EvP.of (fun N => spec_l16Read.eq N _) (EvP.andK this fun r hr => EvP.some ?_)
  have hr : (r.2.1, r.1.2.1, r.1.2.2.1) = Cap 1501 0 s [] := hr
  rw [← hr]
end Go.Proofs.Ytdmnpmhdindabaa.CFnCapsules
