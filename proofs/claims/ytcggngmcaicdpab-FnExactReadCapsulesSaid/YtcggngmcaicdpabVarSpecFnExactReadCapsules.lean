/- The reference's l1Big and l1Take read a number as told. -/
import Derived.Test.YtcggngmcaicdpabVar
import Derived.Test.YtcggngmcaicdpabPFnExactReadCapsulesx0
import Derived.Test.YtcggngmcaicdpabPFnExactReadCapsulesx1
import Derived.Test.YtcggngmcaicdpabPFnExactReadCapsulesx2
import Derived.Test.YtcggngmcaicdpabPFnExactReadCapsulesx3
set_option linter.unusedVariables false
set_option linter.unusedSimpArgs false
namespace Go.Proofs.Ytcggngmcaicdpab.CFnExactReadCapsules
open Go.RowKit Go.Proofs.Ytcggngmcaicdpab.B Go.Proofs.Ytcggngmcaicdpab.PFnExactReadCapsules Go.Proofs.YtcggngmcaicdpabW.PrintWords Go.Proofs.YtcggngmcaicdpabW.PrintLast Go.Proofs.YtcggngmcaicdpabW.PrintMore

theorem big_l0 (s : ByteArray) (hs : s.size ≤ 8) (j : Nat) : ∀ (i : Nat) (acc : Int), i + j = s.size → 0 ≤ acc → (acc + 1) * 256 ^ j ≤ 4611686018427387904 →
    EvP (fun k => spec_l1Big.l0 k s acc (i : Int)) (· = valA acc ((B s).drop i)) := by
  induction j with
  | zero =>
    intro i acc hi h0 h1
    refine EvP.step (fun k => by rw [spec_l1Big.l0]) ?_
    refine EvP.neg (by omega) (EvP.some ?_)
    rw [List.drop_eq_nil_of_le (by rw [B_length]; omega)]; rfl
  | succ j ih =>
    intro i acc hi h0 h1
    refine EvP.step (fun k => by rw [spec_l1Big.l0]) ?_
    refine EvP.pos (by omega) (EvP.pos (by omega) ?_)
    rw [drop_rd (l := B s) (n := i) (by rw [B_length]; omega), valA, bt_B s _ (by omega)]
    have hb := bytes_rd (B_bytes s) (i : Int)
    generalize rd (B s) (i : Int) = b at hb ⊢
    rw [Int.pow_succ] at h1
    have hp : (1 : Int) ≤ 256 ^ j := Int.pow_pos (by decide)
    have h2 : (acc * 256 + b + 1) * 256 ^ j ≤ 4611686018427387904 := by
      have : (acc * 256 + b + 1) * 256 ^ j ≤ ((acc + 1) * 256) * 256 ^ j := Int.mul_le_mul_of_nonneg_right (by omega) (by omega)
      rw [Int.mul_assoc, Int.mul_comm 256 (256 ^ j)] at this
      omega
    have h3 : acc * 256 + b + 1 ≤ 4611686018427387904 := by
      have : (acc * 256 + b + 1) * 1 ≤ (acc * 256 + b + 1) * 256 ^ j := Int.mul_le_mul_of_nonneg_left hp (by omega)
      omega
    rw [w64 (n := acc * 256) (by omega) (by omega), w64 (n := b) (by omega) (by omega), w64 (n := (i : Int) + 1) (by omega) (by omega)]
    have e : Go.bits .or .i64 (acc * 256) b = acc * 256 + b :=
      bits_join .i64 63 (by decide) wraps_i64 8 (acc * 256) b (by omega) (by simp only [Int.reducePow]; omega) (by simp only [Int.reducePow]; omega) hb.1 (by simp only [Int.reducePow]; omega) (by simp only [Int.reducePow]; omega)
    rw [e]
    exact ih (i + 1) (acc * 256 + b) (by omega) (by omega) h2
set_option maxRecDepth 100000 in
theorem and63 : ∀ (v : Fin 256), Go.bits .and .u8 ((v : Nat) : Int) 63 = ((v : Nat) : Int) % 64 := by decide
theorem u8_and63 (v : Int) (h : 0 ≤ v ∧ v ≤ 255) : Go.bits .and .u8 v 63 = v % 64 := by
  have := and63 ⟨v.toNat, by omega⟩
  rwa [show (((⟨v.toNat, by omega⟩ : Fin 256) : Nat) : Int) = v by simp; omega] at this
theorem Take_spec (s : ByteArray) : EvP (fun k => spec_l1Take.f k s) (· = TakeV s) := by
  unfold TakeV
  simp only [spec_l1Take.f]
  by_cases h1 : s.size = 0
  · rw [if_pos h1]; exact EvP.pos h1 (EvP.some rfl)
  rw [if_neg h1]
  refine EvP.neg h1 ?_
  have em : spec_l1Take.m s = vm s := rfl
  rw [em]
  by_cases h2 : s.size < vm s
  · rw [if_pos h2]; exact EvP.pos h2 (EvP.some rfl)
  rw [if_neg h2]
  refine EvP.neg h2 ?_
  have hb := bt_range s 0
  have hv : 1 ≤ vm s ∧ vm s ≤ 8 := by rcases vm_cases s with ⟨_, e⟩ | ⟨_, e⟩ | ⟨_, e⟩ | ⟨_, e⟩ <;> omega
  rw [u8_and63 _ hb, B_extract, List.drop_zero]
  have hB : Bytes (((B s).take (vm s)).set 0 (bt s 0 % 64)) := by
    intro x hx
    rcases List.mem_or_eq_of_mem_set hx with hx | rfl
    · exact (B_bytes s).take _ x hx
    · omega
  have hz : (strOfNums (((B s).take (vm s)).set 0 (bt s 0 % 64))).size = vm s := by
    rw [strOfNums_size, List.length_set, List.length_take, B_length]; omega
  have hB2 := B_strOfNums hB
  refine EvP.bind (Q := fun t => t = valA 0 (((B s).take (vm s)).set 0 (bt s 0 % 64))) ?_ ?_
  · -- the first byte is less than 64
    generalize hy : strOfNums (((B s).take (vm s)).set 0 (bt s 0 % 64)) = y at hz hB2
    simp only [spec_l1Big.f]
    refine EvP.step (fun k => by rw [spec_l1Big.l0]) ?_
    refine EvP.pos (by omega) (EvP.pos (by omega) ?_)
    have e0 : bt y 0 = bt s 0 % 64 := by
      rw [bt_B y 0 (by simp; omega), hB2]
      unfold rd
      rw [List.getD_eq_getElem?_getD, show (0 : Int).toNat = 0 from rfl, List.getElem?_set_self (by rw [List.length_take, B_length]; omega)]
      rfl
    rw [e0]
    generalize hb0 : bt s 0 % 64 = b at *
    have hb1 : 0 ≤ b ∧ b < 64 := by omega
    rw [w64 (n := 0 * 256) (by omega) (by omega), w64 (n := b) (by omega) (by omega), w64 (n := 0 + 1) (by omega) (by omega)]
    have e : Go.bits .or .i64 (0 * 256) b = b := by
      rw [bits_join .i64 63 (by decide) wraps_i64 8 (0 * 256) b (by omega) (by simp only [Int.reducePow]; omega) (by simp only [Int.reducePow]; omega) hb1.1 (by simp only [Int.reducePow]; omega) (by simp only [Int.reducePow]; omega)]
      omega
    rw [e]
    have hlim : (b + 1) * 256 ^ (y.size - 1) ≤ 4611686018427387904 := by
      have h7 : (b + 1) * 256 ^ (y.size - 1) ≤ 64 * 256 ^ (y.size - 1) := Int.mul_le_mul_of_nonneg_right (by omega) (Int.le_of_lt (Int.pow_pos (by decide)))
      rcases vm_cases s with ⟨_, e⟩ | ⟨_, e⟩ | ⟨_, e⟩ | ⟨_, e⟩ <;> rw [hz, e] at h7 ⊢ <;> simp only [Int.reducePow, Nat.reduceSub] at h7 ⊢ <;> omega
    have := big_l0 y (by omega) (y.size - 1) 1 b (by omega) hb1.1 hlim
    refine this.mono ?_
    rintro r rfl
    have e1 := drop_rd (l := B y) (n := 0) (by rw [B_length]; omega)
    rw [List.drop_zero] at e1
    have e2 : rd (B y) ((0 : Nat) : Int) = b := by rw [← bt_B y _ (by simp; omega)]; exact e0
    rw [e2] at e1
    rw [← hB2, e1, valA]
    have e3 : (b :: (B y).drop (0 + 1)).drop 1 = (B y).drop 1 := rfl
    rw [show 0 * 256 + b = b by omega, e3]
  · rintro t rfl
    refine EvP.some ?_
    rw [val_low s (by omega) (by omega)]
end Go.Proofs.Ytcggngmcaicdpab.CFnExactReadCapsules
