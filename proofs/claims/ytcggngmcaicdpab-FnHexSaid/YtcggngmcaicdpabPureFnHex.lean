/- FnHex: whatever is drawn, bytes come back from their hex, what is read is what was written, and both packages tell the same. -/
import Derived.Test.YtcggngmcaicdpabHexFnHex
import Derived.Test.YtcggngmcaicdpabReadHexFnHex
import Derived.Test.YtcggngmcaicdpabCurShortFnHex
import Derived.Test.YtcggngmcaicdpabCurSpoiltFnHex
set_option linter.unusedVariables false
set_option linter.unusedSimpArgs false
namespace Go.Proofs.Ytcggngmcaicdpab.Pure
open Go.RowKit Go.Proofs.Ytcggngmcaicdpab.B Go.Proofs.Ytcggngmcaicdpab.CFnHex Go.Proofs.Ytcggngmcaicdpab.PFnHex Go.Proofs.YtcggngmcaicdpabW.PrintWords Go.Proofs.YtcggngmcaicdpabW.PrintLast Go.Proofs.YtcggngmcaicdpabW.PrintMore

theorem digit_hexd (v : Int) (h : 0 ≤ v ∧ v ≤ 15) : digit (hexd v) = v := by unfold digit hexd; split <;> (try split) <;> (try split) <;> omega
theorem hexd_digit (v : Int) (h : 0 ≤ digit v) : hexd (digit v) = v := by
  revert h
  unfold digit hexd
  split
  · intro h; rw [if_pos (by omega)]; omega
  · split
    · intro h; rw [if_neg (by omega)]; omega
    · intro h; omega
theorem HX_length (l : List Int) : (HX l).length = 2 * l.length := by
  induction l with
  | nil => rfl
  | cons v l ih => simp only [HX, List.flatMap_cons, List.length_append, List.length_cons, List.length_nil] at ih ⊢; omega
theorem RH_HX (l : List Int) (h : Bytes l) : ∀ acc, RH (HX l) acc = (strOfNums (acc ++ l), true) := by
  induction l with
  | nil => intro acc; simp [HX, RH]
  | cons v l ih =>
    intro acc
    have hv := h.head
    have e : HX (v :: l) = hexd (v / 16) :: hexd (v % 16) :: HX l := by simp [HX]
    rw [e, RH, digit_hexd _ (by omega), digit_hexd _ (by omega), if_neg (by omega), if_neg (by omega), ih h.tail]
    rw [show 16 * (v / 16) + v % 16 = v by omega]
    simp
theorem RH_true (n : Nat) : ∀ (l acc : List Int) (y : ByteArray), l.length = 2 * n → RH l acc = (y, true) → ∃ ys, y = strOfNums (acc ++ ys) ∧ HX ys = l ∧ Bytes ys ∧ ys.length = n := by
  induction n with
  | zero =>
    intro l acc y hl h
    obtain rfl : l = [] := List.eq_nil_of_length_eq_zero (by omega)
    simp only [RH, Prod.mk.injEq, and_true] at h
    exact ⟨[], by simp [h], rfl, Bytes.nil, rfl⟩
  | succ n ih =>
    intro l acc y hl h
    match l, hl with
    | a :: b :: l, hl =>
      rw [RH] at h
      by_cases h1 : digit a < 0
      · rw [if_pos h1] at h; simp at h
      · rw [if_neg h1] at h
        by_cases h2 : digit b < 0
        · rw [if_pos h2] at h; simp at h
        · rw [if_neg h2] at h
          have r1 := digit_range a
          have r2 := digit_range b
          obtain ⟨ys, hy, hx, hb, hn⟩ := ih l _ y (by simp at hl; omega) h
          refine ⟨(16 * digit a + digit b) :: ys, by simp [hy], ?_, Bytes.cons (by omega) hb, by simp [hn]⟩
          have e : HX ((16 * digit a + digit b) :: ys) = hexd ((16 * digit a + digit b) / 16) :: hexd ((16 * digit a + digit b) % 16) :: HX ys := by simp [HX]
          rw [e, hx, show (16 * digit a + digit b) / 16 = digit a by omega, show (16 * digit a + digit b) % 16 = digit b by omega, hexd_digit _ (by omega), hexd_digit _ (by omega)]
theorem RH_false (n : Nat) : ∀ (l acc : List Int), l.length = 2 * n → (RH l acc).2 = false → (RH l acc).1 = (⟨#[]⟩ : ByteArray) := by
  induction n with
  | zero =>
    intro l acc hl h
    obtain rfl : l = [] := List.eq_nil_of_length_eq_zero (by omega)
    simp [RH] at h
  | succ n ih =>
    intro l acc hl h
    match l, hl with
    | a :: b :: l, hl =>
      rw [RH] at h ⊢
      by_cases h1 : digit a < 0
      · rw [if_pos h1]
      · rw [if_neg h1] at h ⊢
        by_cases h2 : digit b < 0
        · rw [if_pos h2]
        · rw [if_neg h2] at h ⊢
          exact ih l _ (by simp at hl; omega) h

theorem j1_ok {l : List Int} (hl : Bytes l) : EvP (fun k => laws_FnHex.j1 k l) (· = true) := by
  refine EvP.step (fun k => by rw [laws_FnHex.j1]) ?_
  have hd : EvP (fun k => spec_DrawReadHex.f k l) (fun _ => True) := by
    simp only [spec_DrawReadHex.f]
    refine EvP.bind (short_ok hl 0 0 (by omega) (by omega)) ?_
    intro p hp
    refine EvP.bind (spec_hexText p.1 (by omega)) ?_
    intro q hq
    have hz : q.size ≤ 80 := by rw [← B_length, hq, HX_length, B_length]; omega
    refine EvP.bind (spoilt_ok hl _ _ q _ (by decide) (by omega) (by omega) (by omega)) ?_
    intro r hr
    exact EvP.some trivial
  refine EvP.bind hd ?_
  intro x _
  refine EvP.bind (impl_ReadHex_ok x) ?_
  rintro p rfl
  refine EvP.bind (spec_ReadHex_ok x) ?_
  rintro p rfl
  refine EvP.neg (by simp) ?_
  unfold RHR
  by_cases hc : x.size % 2 = 0 ∧ x.size ≤ 3000
  · rw [if_pos hc]
    have hlen : (B x).length = 2 * (x.size / 2) := by rw [B_length]; omega
    refine EvP.ite (fun h => ?_) (fun h => EvP.some ?_)
    · have e : RH (B x) [] = ((RH (B x) []).1, true) := by rw [← h]
      obtain ⟨ys, hy, hx, hb, hn⟩ := RH_true _ _ _ _ hlen e
      refine EvP.bind (impl_HexText_ok _) ?_
      rintro q rfl
      unfold HexR
      have hs : (RH (B x) []).1.size = ys.length := by rw [hy, strOfNums_size]; simp
      rw [if_neg (show ¬ (RH (B x) []).1.size > 1500 by rw [hs]; omega)]
      refine EvP.pos rfl (EvP.some ?_)
      have e2 : strOfNums (HX (B (RH (B x) []).1)) = x := by
        rw [hy, List.nil_append, B_strOfNums hb, hx, strOfNums_B]
      rw [e2]; simp
    · rw [RH_false _ _ _ hlen (by simpa using h), toList_nil]; rfl
  · rw [if_neg hc]
    exact EvP.neg (by simp) (EvP.some (by dsimp only; rw [toList_nil]; rfl))
theorem FnHex : laws_FnHex.Pure := by
  intro l0 l1 _ _ hb0 _ _ hb1
  have hl0 := bytes_of_wf hb0
  have hl1 := bytes_of_wf hb1
  refine EvP.rounds ?_
  simp only [laws_FnHex.f]
  refine EvP.ite (fun _ => EvP.some rfl) (fun _ => ?_)
  have hd : EvP (fun k => spec_DrawHexText.f k l0) (fun _ => True) := by
    simp only [spec_DrawHexText.f]
    refine EvP.bind (short_ok hl0 0 0 (by omega) (by omega)) ?_
    intro p hp
    exact EvP.some trivial
  refine EvP.bind hd ?_
  intro s _
  refine EvP.bind (impl_HexText_ok s) ?_
  rintro p rfl
  refine EvP.bind (spec_HexText_ok s) ?_
  rintro p rfl
  refine EvP.neg (by simp) ?_
  rw [show ((HexR s).1.toList != (HexR s).1.toList) = false by simp]
  refine EvP.step (fun k => by rw [laws_FnHex.j0]) ?_
  refine EvP.neg (by simp) (EvP.ite (fun h => ?_) (fun h => j1_ok hl1))
  unfold HexR at h ⊢
  by_cases hz : s.size > 1500
  · rw [if_pos hz] at h; simp at h
  · rw [if_neg hz]
    have hsz : (strOfNums (HX (B s))).size = 2 * s.size := by rw [strOfNums_size, HX_length, B_length]
    have e : RHR (strOfNums (HX (B s))) = (s, true) := by
      unfold RHR
      rw [if_pos (by rw [hsz]; omega), B_strOfNums (HX_bytes (B_bytes s)), RH_HX _ (B_bytes s), List.nil_append, strOfNums_B]
    refine EvP.bind (impl_ReadHex_ok _) ?_
    rintro q rfl
    rw [e]
    refine EvP.pos rfl (EvP.pos rfl (EvP.pos ?_ (j1_ok hl1)))
    rw [w64 (n := 2 * (s.size : Int)) (by omega) (by omega), hsz]; omega
end Go.Proofs.Ytcggngmcaicdpab.Pure
