/- A number behind some bits of a first byte: both packages read it alike, and it comes back. -/
import Derived.Test.YtcggngmcaicdpabPrefixFnPrefixed
set_option linter.unusedVariables false
set_option linter.unusedSimpArgs false
namespace Go.Proofs.Ytcggngmcaicdpab.CFnPrefixed
open Go.RowKit Go.Proofs.Ytcggngmcaicdpab.B Go.Proofs.Ytcggngmcaicdpab.PFnPrefixed Go.Proofs.YtcggngmcaicdpabW.PrintWords Go.Proofs.YtcggngmcaicdpabW.PrintLast Go.Proofs.YtcggngmcaicdpabW.PrintMore

/-- What is read of the bytes behind the first one. -/
def takes : Nat → List Int → Int → Nat → Option (Int × Int)
  | 0, _, _, _ => none
  | _ + 1, [], _, _ => none
  | f + 1, v :: L, acc, j => if v < 128 then (if acc + v % 128 * 128 ^ j > 1000000000 then none else some (acc + v % 128 * 128 ^ j, j + 2)) else takes f L (acc + v % 128 * 128 ^ j) (j + 1)
def told (high : Int) : Option (Int × Int) → Int × Int × Int
  | none => (0, 0, 0)
  | some (n, t) => (n, high, t)
theorem pow128 (j : Nat) : 0 < (128 : Int) ^ j := Int.pow_pos (by decide)
theorem takes_far (f : Nat) : ∀ (L : List Int) (acc : Int) (j : Nat), Bytes L → acc > 1000000000 → takes f L acc j = none := by
  induction f with
  | zero => intro L acc j _ _; rfl
  | succ f ih =>
    intro L acc j hL h
    cases L with
    | nil => rfl
    | cons v L =>
      have hv := hL.head
      have hn : 0 ≤ v % 128 * 128 ^ j := Int.mul_nonneg (by omega) (Int.le_of_lt (pow128 j))
      rw [takes, if_pos (show acc + v % 128 * 128 ^ j > 1000000000 by omega), ih _ _ _ hL.tail (by omega)]
      split <;> rfl
theorem shl_seven (v : Int) (hv : 0 ≤ v ∧ v ≤ 127) (j : Nat) (hj : j ≤ 4) : shl .i64 v (7 * (j : Int)) = v * 128 ^ j ∧ 0 ≤ v * 128 ^ j ∧ v * 128 ^ j ≤ 35000000000 := by
  have h : j = 0 ∨ j = 1 ∨ j = 2 ∨ j = 3 ∨ j = 4 := by omega
  unfold shl
  rw [IntWalk.i64_left]
  rcases h with rfl | rfl | rfl | rfl | rfl <;> (refine ⟨?_, ?_, ?_⟩ <;> simp [IntKind.bits] <;> first | omega | (apply w64 <;> omega))

theorem take_impl (s : ByteArray) (high : Int) (f : Nat) : ∀ (j : Nat) (acc : Int), j + f = 5 → 0 ≤ acc → acc ≤ 300 + 35000000000 * j →
    EvP (fun k => impl_TakePrefix.l0 k s acc high (j + 1)) (· = told high (takes f ((B s).drop (j + 1)) acc j)) := by
  induction f with
  | zero =>
    intro j acc hj h0 h1
    refine EvP.step (fun k => by rw [impl_TakePrefix.l0]) ?_
    refine EvP.ite (fun _ => ?_) (fun _ => ?_)
    · refine EvP.step (fun k => by rw [impl_TakePrefix.j2]) ?_
      exact EvP.neg (by simp; omega) (EvP.some rfl)
    · refine EvP.step (fun k => by rw [impl_TakePrefix.j2]) ?_
      exact EvP.neg (by simp) (EvP.some rfl)
  | succ f ih =>
    intro j acc hj h0 h1
    refine EvP.step (fun k => by rw [impl_TakePrefix.l0]) ?_
    refine EvP.ite (fun hs => ?_) (fun hs => ?_)
    · refine EvP.step (fun k => by rw [impl_TakePrefix.j2]) ?_
      refine EvP.pos (by simp; omega) ?_
      rw [show ((j : Int) + 1) - 1 = (j : Int) by omega, w64 (n := (j : Int)) (by omega) (by omega), w64 (n := 7 * (j : Int)) (by omega) (by omega), w64 (n := (j : Int) + 1 + 1) (by omega) (by omega), bt_B s _ (by omega)]
      have hv := bytes_rd (B_bytes s) ((j : Int) + 1)
      rw [drop_rd (l := B s) (n := j + 1) (by rw [B_length]; omega), show ((j + 1 : Nat) : Int) = (j : Int) + 1 by omega]
      generalize rd (B s) ((j : Int) + 1) = v at hv ⊢
      rw [Int.tmod_eq_emod_of_nonneg hv.1, w64 (n := v % 128) (by omega) (by omega)]
      obtain ⟨e, hn, hx⟩ := shl_seven (v % 128) ⟨by omega, by omega⟩ j (by omega)
      rw [e, takes]
      generalize v % 128 * 128 ^ j = z at hn hx ⊢
      rw [w64 (n := acc + z) (by omega) (by omega)]
      refine EvP.pos (by omega) (EvP.pos (by omega) (EvP.pos (by omega) (EvP.ite (fun h3 => ?_) (fun h3 => ?_))))
      · rw [if_pos h3]
        refine EvP.ite (fun h4 => EvP.some (by rw [if_pos h4]; rfl)) (fun h4 => EvP.some (by rw [if_neg h4]; simp [told]; omega))
      · rw [if_neg h3]
        have := ih (j + 1) (acc + z) (by omega) (by omega) (by omega)
        rw [show (((j + 1 : Nat) : Int) + 1) = (j : Int) + 1 + 1 by omega] at this
        exact this
    · refine EvP.step (fun k => by rw [impl_TakePrefix.j2]) ?_
      refine EvP.neg (by simp) (EvP.some ?_)
      rw [List.drop_eq_nil_of_le (by rw [B_length]; omega)]
      rfl
theorem take_spec (s : ByteArray) (high : Int) (f : Nat) : ∀ (j : Nat) (acc : Int), j + f = 5 → 0 ≤ acc → acc ≤ 300 + 35000000000 * j →
    EvP (fun k => spec_TakePrefix.l0 k s acc high (j + 1)) (· = told high (takes f ((B s).drop (j + 1)) acc j)) := by
  induction f with
  | zero =>
    intro j acc hj h0 h1
    refine EvP.step (fun k => by rw [spec_TakePrefix.l0]) ?_
    refine EvP.neg (by omega) ?_
    refine EvP.step (fun k => by rw [spec_TakePrefix.j2]) ?_
    exact EvP.neg (by simp) (EvP.some rfl)
  | succ f ih =>
    intro j acc hj h0 h1
    refine EvP.step (fun k => by rw [spec_TakePrefix.l0]) ?_
    refine EvP.pos (by omega) ?_
    refine EvP.step (fun k => by rw [spec_TakePrefix.j2]) ?_
    refine EvP.ite (fun hs => ?_) (fun hs => EvP.some ?_)
    · have hs : (j : Int) + 1 < (s.size : Int) := by simpa using hs
      rw [show ((j : Int) + 1) - 1 = (j : Int) by omega, w64 (n := (j : Int)) (by omega) (by omega), w64 (n := 7 * (j : Int)) (by omega) (by omega), u64w_id (n := 7 * (j : Int)) (by omega) (by omega), w64 (n := (j : Int) + 1 + 1) (by omega) (by omega), bt_B s _ (by omega)]
      have hv := bytes_rd (B_bytes s) ((j : Int) + 1)
      have hL := (B_bytes s).drop (j + 1 + 1)
      rw [drop_rd (l := B s) (n := j + 1) (by rw [B_length]; omega), show ((j + 1 : Nat) : Int) = (j : Int) + 1 by omega]
      generalize rd (B s) ((j : Int) + 1) = v at hv ⊢
      rw [u8_and127 v hv.1 (by omega), w64 (n := v % 128) (by omega) (by omega)]
      obtain ⟨e, hn, hx⟩ := shl_seven (v % 128) ⟨by omega, by omega⟩ j (by omega)
      rw [e, takes]
      generalize v % 128 * 128 ^ j = z at hn hx ⊢
      rw [w64 (n := acc + z) (by omega) (by omega)]
      refine EvP.pos (by omega) (EvP.pos (by omega) (EvP.pos (by omega) (EvP.ite (fun h4 => EvP.some ?_) (fun h4 => EvP.ite (fun h3 => EvP.some ?_) (fun h3 => ?_)))))
      · rw [if_pos h4, takes_far f _ _ _ hL h4]; split <;> rfl
      · rw [if_pos h3, if_neg h4]; simp [told]; omega
      · rw [if_neg h3]
        have := ih (j + 1) (acc + z) (by omega) (by omega) (by omega)
        rw [show (((j + 1 : Nat) : Int) + 1) = (j : Int) + 1 + 1 by omega] at this
        exact this
    · have hs : ¬ (j : Int) + 1 < (s.size : Int) := by simpa using hs
      rw [List.drop_eq_nil_of_le (by rw [B_length]; omega)]
      rfl
/-- What both read. -/
def TakeR (s : ByteArray) (b : Int) : Int × Int × Int :=
  if 3 ≤ b ∧ b ≤ 8 then
    match B s with
    | [] => (0, 0, 0)
    | v :: L => if v % P2 b < P2 b - 1 then (v % P2 b, v - v % P2 b, 1) else told (v - v % P2 b) (takes 5 L (v % P2 b) 0)
  else (0, 0, 0)
theorem andNot_mask : ∀ (v : Fin 256), Go.bits .andNot .i64 ((v : Nat) : Int) 7 = ((v : Nat) : Int) - ((v : Nat) : Int) % 8 ∧ Go.bits .andNot .i64 ((v : Nat) : Int) 15 = ((v : Nat) : Int) - ((v : Nat) : Int) % 16 ∧ Go.bits .andNot .i64 ((v : Nat) : Int) 31 = ((v : Nat) : Int) - ((v : Nat) : Int) % 32 ∧
    Go.bits .andNot .i64 ((v : Nat) : Int) 63 = ((v : Nat) : Int) - ((v : Nat) : Int) % 64 ∧ Go.bits .andNot .i64 ((v : Nat) : Int) 127 = ((v : Nat) : Int) - ((v : Nat) : Int) % 128 ∧ Go.bits .andNot .i64 ((v : Nat) : Int) 255 = ((v : Nat) : Int) - ((v : Nat) : Int) % 256 := by decide +kernel
theorem i64_andNot (v : Int) (hv : 0 ≤ v ∧ v ≤ 255) {b : Int} (h : 3 ≤ b ∧ b ≤ 8) : Go.bits .andNot .i64 v (P2 b - 1) = v - v % P2 b := by
  have := andNot_mask ⟨v.toNat, by omega⟩
  rw [show (((⟨v.toNat, by omega⟩ : Fin 256) : Nat) : Int) = v by simp; omega] at this
  obtain ⟨h1, h2, h3, h4, h5, h6⟩ := this
  rcases P2_cases h with e | e | e | e | e | e <;> rw [e] <;> assumption
theorem B_cons {s : ByteArray} (h : 0 < s.size) : B s = rd (B s) 0 :: (B s).drop 1 := by
  have := drop_rd (l := B s) (n := 0) (by rw [B_length]; exact h)
  simpa using this
theorem B_empty {s : ByteArray} (h : s.toList = []) : B s = [] := by
  rw [ByteArray.toList_eq] at h
  unfold B; rw [h]; rfl
theorem size_pos {s : ByteArray} (h : ¬ s.toList = []) : 0 < s.size := by
  rcases Nat.eq_zero_or_pos s.size with h0 | h0
  · exact absurd (by rw [ByteArray.toList_eq]; exact List.eq_nil_of_length_eq_zero (by rw [Array.length_toList]; exact h0)) h
  · exact h0
theorem TakePrefix_impl (s : ByteArray) (b : Int) : EvP (fun k => impl_TakePrefix.f k s b) (· = TakeR s b) := by
  unfold TakeR
  simp only [impl_TakePrefix.f, impl_bitsOk.f, in_impl, Option.bind_some]
  have hz : EvP (fun k => impl_TakePrefix.j0 k s b true) (· = ((0, 0, 0) : Int × Int × Int)) := by
    refine EvP.step (fun k => by rw [impl_TakePrefix.j0]) ?_
    exact EvP.pos rfl (EvP.some rfl)
  refine EvP.ite (fun h2 => ?_) (fun h2 => ?_)
  · have h2 := of_decide_eq_true h2
    rw [if_pos h2]
    by_cases hs : s.toList = []
    · rw [show (s.toList == ([] : List UInt8)) = true by rw [hs]; rfl, B_empty hs]; exact hz
    · rw [show (s.toList == ([] : List UInt8)) = false by rw [beq_eq_false_iff_ne]; exact hs]
      have hp := P2_cases h2
      have h0 := size_pos hs
      refine EvP.step (fun k => by rw [impl_TakePrefix.j0]) ?_
      rw [bt_B s 0 (by simpa using h0), B_cons h0]
      have hv := bytes_rd (B_bytes s) 0
      have er : rd (rd (B s) 0 :: (B s).drop 1) 0 = rd (B s) 0 := rfl
      rw [er]
      generalize hd : (B s).drop 1 = L
      generalize rd (B s) 0 = v at hv ⊢
      dsimp only
      have hm := Int.emod_nonneg v (show P2 b ≠ 0 by omega)
      have hm2 := Int.emod_lt_of_pos v (show 0 < P2 b by omega)
      rw [shl_P2 h2, w64 (n := P2 b - 1) (by omega) (by omega), w64 (n := v) (by omega) (by omega), i64_mask v hv.1 (by omega) h2, i64_andNot v hv h2]
      refine EvP.neg (by simp) (EvP.pos (by omega) (EvP.pos (by omega) (EvP.ite (fun h3 => EvP.some (by rw [if_pos h3])) (fun h3 => ?_))))
      rw [if_neg h3, ← hd]
      exact take_impl s _ 5 0 _ (by omega) hm (by omega)
  · rw [if_neg (fun q => h2 (decide_eq_true q))]; exact hz
theorem TakePrefix_spec (s : ByteArray) (b : Int) : EvP (fun k => spec_TakePrefix.f k s b) (· = TakeR s b) := by
  unfold TakeR
  simp only [spec_TakePrefix.f, in_spec, Option.bind_some]
  have hz : EvP (fun k => spec_TakePrefix.j0 k s b true) (· = ((0, 0, 0) : Int × Int × Int)) := by
    refine EvP.step (fun k => by rw [spec_TakePrefix.j0]) ?_
    exact EvP.pos rfl (EvP.some rfl)
  refine EvP.ite (fun hs => ?_) (fun hs => ?_)
  · rw [B_empty hs]
    refine hz.mono ?_
    rintro r rfl
    split <;> rfl
  · by_cases h2 : 3 ≤ b ∧ b ≤ 8
    · rw [if_pos h2, show (!decide (3 ≤ b ∧ b ≤ 8)) = false by simp [h2]]
      have hp := P2_cases h2
      have h0 := size_pos hs
      refine EvP.step (fun k => by rw [spec_TakePrefix.j0]) ?_
      rw [bt_B s 0 (by simpa using h0), B_cons h0]
      have hv := bytes_rd (B_bytes s) 0
      have er : rd (rd (B s) 0 :: (B s).drop 1) 0 = rd (B s) 0 := rfl
      rw [er]
      generalize hd : (B s).drop 1 = L
      generalize rd (B s) 0 = v at hv ⊢
      dsimp only
      have hm := Int.emod_nonneg v (show P2 b ≠ 0 by omega)
      have hm2 := Int.emod_lt_of_pos v (show 0 < P2 b by omega)
      rw [u64w_id (n := b) (by omega) (by omega), shl_P2 h2, w64 (n := P2 b - 1) (by omega) (by omega), w64 (n := v) (by omega) (by omega), i64_mask v hv.1 (by omega) h2, i64_andNot v hv h2]
      refine EvP.neg (by simp) (EvP.pos (by omega) (EvP.pos (by omega) (EvP.ite (fun h3 => EvP.some (by rw [if_pos h3])) (fun h3 => ?_))))
      rw [if_neg h3, ← hd]
      exact take_spec s _ 5 0 _ (by omega) hm (by omega)
    · rw [if_neg h2, show (!decide (3 ≤ b ∧ b ≤ 8)) = true by simp; omega]; exact hz

/-! ### it comes back -/
theorem takes_cont (f : Nat) : ∀ (n acc : Int) (j : Nat) (M : List Int), 0 ≤ n → n < 128 ^ (f + 1) → 0 ≤ acc → acc + n * 128 ^ j ≤ 1000000000 →
    takes (f + 1) (cont f n ++ M) acc j = some (acc + n * 128 ^ j, (j : Int) + 1 + (cont f n).length) := by
  induction f with
  | zero =>
    intro n acc j M h0 h1 ha hz
    simp only [Nat.zero_add, Int.reducePow] at h1
    rw [cont, List.cons_append, takes, if_pos h1, Int.emod_eq_of_lt h0 h1, if_neg (by omega)]
    simp; omega
  | succ f ih =>
    intro n acc j M h0 h1 ha hz
    rw [cont]
    by_cases hc : n < 128
    · rw [if_pos hc, List.cons_append, takes, if_pos hc, Int.emod_eq_of_lt h0 hc, if_neg (by omega)]
      simp; omega
    · rw [if_neg hc, List.cons_append, takes, if_neg (by omega), show (n % 128 + 128) % 128 = n % 128 by omega]
      have e : acc + n % 128 * 128 ^ j + n / 128 * 128 ^ (j + 1) = acc + n * 128 ^ j := by
        rw [Int.pow_succ]
        have : n * 128 ^ j = (n % 128 + 128 * (n / 128)) * 128 ^ j := by congr 1; omega
        rw [this, Int.add_mul, Int.mul_comm ((128 : Int) ^ j) 128, ← Int.mul_assoc, Int.mul_comm (n / 128) 128]
        omega
      have hn : 0 ≤ n % 128 * 128 ^ j := Int.mul_nonneg (by omega) (Int.le_of_lt (pow128 j))
      rw [Int.pow_succ] at h1
      rw [ih (n / 128) _ (j + 1) M (by omega) (Int.ediv_lt_of_lt_mul (by decide) h1) (by omega) (by rw [e]; exact hz), e]
      simp; omega
theorem TakeR_back {n b first : Int} (h : PreOk n b first) (s : ByteArray) (M : List Int) (hs : B s = pfx n b first ++ M) : TakeR s b = (n, first, ((pfx n b first).length : Int)) := by
  obtain ⟨hn, hb, hf, hm⟩ := id h
  have hp := P2_cases hb
  unfold TakeR
  rw [if_pos hb, hs]
  unfold pfx
  by_cases hc : n < P2 b - 1
  · rw [if_pos hc]
    simp only [List.cons_append, List.nil_append]
    have e : (first + n) % P2 b = n := by rw [Int.add_emod, hm, Int.zero_add, Int.emod_emod_of_dvd _ (Int.dvd_refl _)]; exact Int.emod_eq_of_lt hn.1 (by omega)
    rw [e, if_pos hc]
    simp
  · rw [if_neg hc]
    simp only [List.cons_append]
    have e : (first + (P2 b - 1)) % P2 b = P2 b - 1 := by rw [Int.add_emod, hm, Int.zero_add, Int.emod_emod_of_dvd _ (Int.dvd_refl _)]; exact Int.emod_eq_of_lt (by omega) (by omega)
    rw [e, if_neg (by omega), takes_cont 4 (n - (P2 b - 1)) (P2 b - 1) 0 M (by omega) (by simp only [Nat.reduceAdd, Int.reducePow]; omega) (by omega) (by simp; omega)]
    simp [told]
    omega
end Go.Proofs.Ytcggngmcaicdpab.CFnPrefixed
