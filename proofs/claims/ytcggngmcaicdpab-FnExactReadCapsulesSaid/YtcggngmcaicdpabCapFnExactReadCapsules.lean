/- Capsules: what both packages read of a text. -/
import Derived.Test.YtcggngmcaicdpabVarSpecFnExactReadCapsules
import Derived.Test.YtcggngmcaicdpabReadVarFnExactReadCapsules
set_option linter.unusedVariables false
set_option linter.unusedSimpArgs false
namespace Go.Proofs.Ytcggngmcaicdpab.CFnExactReadCapsules
open Go.RowKit Go.Proofs.Ytcggngmcaicdpab.B Go.Proofs.Ytcggngmcaicdpab.PFnExactReadCapsules Go.Proofs.YtcggngmcaicdpabW.PrintWords Go.Proofs.YtcggngmcaicdpabW.PrintLast Go.Proofs.YtcggngmcaicdpabW.PrintMore

theorem leftV_size (t : ByteArray) : ((leftV t).size : Int) = t.size - (TakeV t).2 := by
  obtain ⟨_, _, h3, _, h5⟩ := TakeV_range t
  have := congrArg List.length (B_leftV t)
  rw [List.length_drop, B_length, B_length] at this; omega
/-- What is read from t on, which begins at p, behind the capsules of l. -/
def Cap : Nat → Int → ByteArray → List S100 → List S100 × Int × Bool
  | 0, p, _, l => (l, p, true)
  | f + 1, p, t, l =>
    if (TakeV t).2 = 0 ∨ (TakeV (leftV t)).2 = 0 then (l, p, true)
    else if (TakeV (leftV t)).1 > 200 then ([], 0, false)
    else if (TakeV (leftV t)).1 > ((leftV (leftV t)).size : Int) then (l, p, true)
    else if l.length = 30 then ([], 0, false)
    else Cap f (p + (TakeV t).2 + (TakeV (leftV t)).2 + (TakeV (leftV t)).1) ((leftV (leftV t)).extract (TakeV (leftV t)).1.toNat (leftV (leftV t)).size)
      (l ++ [⟨(TakeV t).1, (leftV (leftV t)).extract 0 (TakeV (leftV t)).1.toNat⟩])
theorem Cap_length : ∀ (f : Nat) (p : Int) (t : ByteArray) (l : List S100), l.length ≤ 30 → (Cap f p t l).1.length ≤ 30
  | 0, _, _, _, h => h
  | f + 1, p, t, l, h => by
    rw [Cap]
    split
    · exact h
    · split
      · simp
      · split
        · exact h
        · split
          · simp
          · exact Cap_length f _ _ _ (by rw [List.length_append, List.length_singleton]; omega)

theorem take_all (s : ByteArray) : (B s).take s.size = B s := List.take_of_length_le (by rw [B_length]; exact Nat.le_refl _)
theorem extract_behind (s : ByteArray) (p q : Nat) (h : p ≤ s.size) : (s.extract p s.size).extract q (s.size - p) = s.extract (p + q) s.size := by
  apply B_inj
  rw [B_extract, B_extract, B_extract, take_all, List.take_of_length_le (by rw [List.length_drop, B_length]; exact Nat.le_refl _), List.drop_drop]
theorem leftV_behind (s : ByteArray) (p : Nat) (h : p ≤ s.size) : leftV (s.extract p s.size) = s.extract (p + (TakeV (s.extract p s.size)).2.toNat) s.size := by
  rw [← extract_behind s p _ h]
  unfold leftV
  rw [show (s.extract p s.size).size = s.size - p by rw [ByteArray.size_extract]; omega]
theorem extract_part (s : ByteArray) (p n : Nat) (h : p + n ≤ s.size) : (s.extract p s.size).extract 0 n = s.extract p (p + n) := by
  apply B_inj
  rw [B_extract, B_extract, B_extract, take_all, List.drop_zero, List.take_drop]

set_option maxHeartbeats 4000000 in
theorem read_spec (s : ByteArray) (hs : s.size ≤ 1500) (f : Nat) : ∀ (p : Nat) (l : List S100), p ≤ s.size → s.size - p < f → l.length ≤ 30 →
    EvP (fun k => spec_l16Read.l0 k s l (p : Int)) (· = Cap f p (s.extract p s.size) l) := by
  induction f with
  | zero => intro p l h1 h2; omega
  | succ f ih =>
    intro p l h1 h2 h3
    rw [Cap]
    refine EvP.step (fun k => by rw [spec_l16Read.l0]) ?_
    refine EvP.pos (by omega) (EvP.pos (by omega) ?_)
    rw [Int.toNat_natCast]
    have hts : (s.extract p s.size).size = s.size - p := by rw [ByteArray.size_extract]; omega
    have hlb := leftV_behind s p h1
    generalize ht : s.extract p s.size = t at *
    refine EvP.bind (Take_spec t) ?_
    rintro q rfl
    obtain ⟨r1, r2, r3, r4, r5⟩ := TakeV_range t
    refine EvP.ite (fun c1 => by rw [if_pos (.inl c1)]; exact EvP.some rfl) (fun c1 => ?_)
    rw [w64 (n := (p : Int) + (TakeV t).2) (by omega) (by omega)]
    refine EvP.pos (by omega) (EvP.pos (by omega) ?_)
    have e1 : s.extract ((p : Int) + (TakeV t).2).toNat s.size = leftV t := by rw [hlb]; congr 1; omega
    rw [e1]
    refine EvP.bind (Take_spec (leftV t)) ?_
    rintro q rfl
    obtain ⟨q1, q2, q3, q4, q5⟩ := TakeV_range (leftV t)
    have hl1 := leftV_size t
    have hl2 := leftV_size (leftV t)
    refine EvP.ite (fun c2 => by rw [if_pos (.inr c2)]; exact EvP.some rfl) (fun c2 => ?_)
    rw [if_neg (by simp only [not_or]; exact ⟨c1, c2⟩)]
    refine EvP.ite (fun c3 => by rw [if_pos c3]; exact EvP.some rfl) (fun c3 => ?_)
    rw [if_neg c3, w64 (n := (p : Int) + (TakeV t).2 + (TakeV (leftV t)).2) (by omega) (by omega), w64 (n := (s.size : Int) - ((p : Int) + (TakeV t).2 + (TakeV (leftV t)).2)) (by omega) (by omega)]
    refine EvP.ite (fun c4 => by rw [if_pos (by omega)]; exact EvP.some rfl) (fun c4 => ?_)
    rw [if_neg (by omega)]
    refine EvP.ite (fun c5 => by rw [if_pos (by omega)]; exact EvP.some rfl) (fun c5 => ?_)
    rw [if_neg (by omega), w64 (n := (p : Int) + (TakeV t).2 + (TakeV (leftV t)).2 + (TakeV (leftV t)).1) (by omega) (by omega)]
    refine EvP.pos (by omega) ?_
    refine EvP.pos (by omega) ?_
    refine EvP.pos (by omega) ?_
    refine EvP.pos (by omega) ?_
    have e2 : leftV (leftV t) = s.extract (p + (TakeV t).2.toNat + (TakeV (leftV t)).2.toNat) s.size := by
      have h7 : leftV t = s.extract (p + (TakeV t).2.toNat) s.size := hlb
      have := leftV_behind s (p + (TakeV t).2.toNat) (by omega)
      rw [← h7] at this
      exact this
    have e3 : s.extract ((p : Int) + (TakeV t).2 + (TakeV (leftV t)).2).toNat ((p : Int) + (TakeV t).2 + (TakeV (leftV t)).2 + (TakeV (leftV t)).1).toNat = (leftV (leftV t)).extract 0 (TakeV (leftV t)).1.toNat := by
      rw [e2, extract_part _ _ _ (by omega)]; congr 1 <;> omega
    have e4 : (leftV (leftV t)).extract (TakeV (leftV t)).1.toNat (leftV (leftV t)).size = s.extract ((p : Int) + (TakeV t).2 + (TakeV (leftV t)).2 + (TakeV (leftV t)).1).toNat s.size := by
      have h7 : (leftV (leftV t)).size = s.size - (p + (TakeV t).2.toNat + (TakeV (leftV t)).2.toNat) := by omega
      rw [h7]
      conv => lhs; rw [e2]
      rw [extract_behind _ _ _ (by omega)]
      exact congrArg (fun z => s.extract z s.size) (by omega)
    rw [e3, e4]
    have := ih ((p : Int) + (TakeV t).2 + (TakeV (leftV t)).2 + (TakeV (leftV t)).1).toNat (l ++ [⟨(TakeV t).1, (leftV (leftV t)).extract 0 (TakeV (leftV t)).1.toNat⟩]) (by omega) (by omega) (by rw [List.length_append, List.length_singleton]; omega)
    rw [Int.toNat_of_nonneg (by omega)] at this
    exact this
theorem cut_impl (s : ByteArray) (n : Int) (h0 : 0 ≤ n) (h : n ≤ s.size) : impl_cursor_take.f s false n = some (s.extract 0 n.toNat, s.extract n.toNat s.size, false) := by
  unfold impl_cursor_take.f
  rw [if_neg (by simp), if_neg (by omega), if_pos h0, if_pos h]
theorem short_impl (s : ByteArray) (n : Int) (sh : Bool) (h : sh = true ∨ n > s.size) : impl_cursor_take.f s sh n = some (⟨#[]⟩, s, true) := by
  unfold impl_cursor_take.f
  by_cases h1 : sh = true
  · rw [if_pos h1]
  · rw [if_neg h1, if_pos (by rcases h with h | h; exact absurd h h1; exact h)]
set_option maxHeartbeats 4000000 in
theorem read_impl (s : ByteArray) (hs : s.size ≤ 1500) (f : Nat) : ∀ (t : ByteArray) (l : List S100), t.size < f → t.size ≤ s.size → l.length ≤ 30 →
    EvP (fun k => impl_ReadCapsules.l0 k s l t false) (· = Cap f ((s.size : Int) - t.size) t l) := by
  induction f with
  | zero => intro t l h1 h2; omega
  | succ f ih =>
    intro t l h1 h2 h3
    rw [Cap]
    refine EvP.step (fun k => by rw [impl_ReadCapsules.l0]) ?_
    refine EvP.bind (curNumber_ok t false) ?_
    rintro q rfl
    refine EvP.bind (curNumber_ok _ _) ?_
    rintro q rfl
    simp only
    rw [w64 (n := (s.size : Int) - t.size) (by omega) (by omega)]
    obtain ⟨r1, r2, r3, r4, r5⟩ := TakeV_range t
    obtain ⟨q1, q2, q3, q4, q5⟩ := TakeV_range (leftV t)
    have hl1 := leftV_size t
    have hl2 := leftV_size (leftV t)
    by_cases c : (TakeV t).2 = 0 ∨ (TakeV (leftV t)).2 = 0
    · rw [if_pos c]
      have hsh : (if (TakeV (leftV t)).2 = 0 then true else if (TakeV t).2 = 0 then true else false) = true := by rcases c with c | c <;> simp [c]
      rw [hsh]
      refine EvP.pos rfl ?_
      refine EvP.step (fun k => by rw [impl_ReadCapsules.j1]) ?_
      refine EvP.neg (by simp) ?_
      rw [short_impl _ _ _ (.inl rfl)]
      simp only [Option.bind_some]
      exact EvP.pos (by simp) (EvP.some rfl)
    · rw [if_neg c]
      simp only [not_or] at c
      have hsh : (if (TakeV (leftV t)).2 = 0 then true else if (TakeV t).2 = 0 then true else false) = false := by simp [c.1, c.2]
      rw [hsh]
      refine EvP.neg (by simp) ?_
      refine EvP.step (fun k => by rw [impl_ReadCapsules.j1]) ?_
      by_cases c3 : (TakeV (leftV t)).1 > 200
      · rw [if_pos c3]; exact EvP.pos (decide_eq_true c3) (EvP.some rfl)
      rw [if_neg c3]
      refine EvP.neg (by simpa using c3) ?_
      by_cases c4 : (TakeV (leftV t)).1 > ((leftV (leftV t)).size : Int)
      · rw [if_pos c4, short_impl _ _ _ (.inr c4)]
        simp only [Option.bind_some]
        exact EvP.pos (by simp) (EvP.some rfl)
      rw [if_neg c4, cut_impl _ _ q1 (by omega)]
      simp only [Option.bind_some]
      refine EvP.neg (by simp) (EvP.pos (by omega) ?_)
      by_cases c5 : l.length = 30
      · rw [if_pos c5]; exact EvP.pos (by rw [List.length_append, List.length_singleton]; omega) (EvP.some rfl)
      rw [if_neg c5]
      refine EvP.neg (by rw [List.length_append, List.length_singleton]; omega) ?_
      have hr : ((leftV (leftV t)).extract (TakeV (leftV t)).1.toNat (leftV (leftV t)).size).size = (leftV (leftV t)).size - (TakeV (leftV t)).1.toNat := by rw [ByteArray.size_extract]; omega
      have := ih ((leftV (leftV t)).extract (TakeV (leftV t)).1.toNat (leftV (leftV t)).size) (l ++ [⟨(TakeV t).1, (leftV (leftV t)).extract 0 (TakeV (leftV t)).1.toNat⟩]) (by omega) (by omega) (by rw [List.length_append, List.length_singleton]; omega)
      rw [show (s.size : Int) - ((leftV (leftV t)).extract (TakeV (leftV t)).1.toNat (leftV (leftV t)).size).size = (s.size : Int) - t.size + (TakeV t).2 + (TakeV (leftV t)).2 + (TakeV (leftV t)).1 by omega] at this
      exact this
/-- What both read of a whole text. -/
def Caps (s : ByteArray) : List S100 × Int × Bool := if s.size > 1500 then ([], 0, false) else Cap 1501 0 s []
theorem Caps_length (s : ByteArray) : (Caps s).1.length ≤ 30 := by
  unfold Caps
  split
  · simp
  · exact Cap_length _ _ _ _ (by simp)
theorem ReadCapsules_impl (s : ByteArray) : EvP (fun k => impl_ReadCapsules.f k s) (· = Caps s) := by
  unfold Caps
  simp only [impl_ReadCapsules.f]
  by_cases h : s.size > 1500
  · rw [if_pos h]; exact EvP.pos (by omega) (EvP.some rfl)
  · rw [if_neg h]
    refine EvP.neg (by omega) ?_
    have := read_impl s (by omega) 1501 s [] (by omega) (Nat.le_refl _) (by simp)
    rw [show (s.size : Int) - s.size = 0 by omega] at this
    exact this
theorem read16_spec (s : ByteArray) (hs : s.size ≤ 1500) : EvP (fun k => spec_l16Read.f k s) (· = Cap 1501 0 s []) := by
  simp only [spec_l16Read.f]
  have := read_spec s hs 1501 0 [] (by omega) (by omega) (by simp)
  rw [extract_all] at this
  exact this
end Go.Proofs.Ytcggngmcaicdpab.CFnExactReadCapsules
