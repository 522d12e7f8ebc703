/- The number that a text begins with: one, two, four or eight bytes, the first two bits tell which. Plain. -/
import Derived.Test.YtcngjidojibleaaStr
set_option linter.unusedVariables false
set_option linter.unusedSimpArgs false
namespace Go.Proofs.Ytcngjidojibleaa.B
open Go.RowKit Go.Proofs.YtcngjidojibleaaW.PrintWords Go.Proofs.YtcngjidojibleaaW.PrintLast Go.Proofs.YtcngjidojibleaaW.PrintMore

/-- What bytes tell, the highest first, behind what is told. -/
def valA : Int → List Int → Int
  | n, [] => n
  | n, b :: l => valA (n * 256 + b) l
theorem valA_eq : ∀ (l : List Int) (n : Int), valA n l = n * 256 ^ l.length + valA 0 l
  | [], n => by simp [valA]
  | b :: l, n => by
    rw [valA, valA_eq l (n * 256 + b), valA, valA_eq l (0 * 256 + b), List.length_cons, Int.pow_succ]
    rw [Int.add_mul, Int.add_mul, Int.mul_assoc, Int.mul_comm 256 (256 ^ l.length)]
    omega
theorem valA_range : ∀ (l : List Int), Bytes l → 0 ≤ valA 0 l ∧ valA 0 l < 256 ^ l.length
  | [], _ => by simp [valA]
  | b :: l, h => by
    have hb := h.head
    have ih := valA_range l h.tail
    rw [valA, valA_eq, List.length_cons, Int.pow_succ]
    have e : (0 * 256 + b) = b := by omega
    rw [e]
    have hp : (0 : Int) < 256 ^ l.length := Int.pow_pos (by decide)
    generalize (256 : Int) ^ l.length = p at *
    have h1 : 0 ≤ b * p := Int.mul_nonneg hb.1 (Int.le_of_lt hp)
    have h2 : b * p ≤ 255 * p := Int.mul_le_mul_of_nonneg_right hb.2 (Int.le_of_lt hp)
    constructor
    · omega
    · omega
/-- How many bytes the first one asks for. -/
def vm (s : ByteArray) : Nat := 2 ^ ((bt s 0) / 64).toNat
theorem vm_cases (s : ByteArray) : (bt s 0 / 64 = 0 ∧ vm s = 1) ∨ (bt s 0 / 64 = 1 ∧ vm s = 2) ∨ (bt s 0 / 64 = 2 ∧ vm s = 4) ∨ (bt s 0 / 64 = 3 ∧ vm s = 8) := by
  obtain ⟨h0, h1⟩ := bt_range s 0
  unfold vm
  have : bt s 0 / 64 = 0 ∨ bt s 0 / 64 = 1 ∨ bt s 0 / 64 = 2 ∨ bt s 0 / 64 = 3 := by omega
  rcases this with e | e | e | e <;> rw [e] <;> decide
/-- What both packages read. -/
def TakeV (s : ByteArray) : Int × Int :=
  if s.size = 0 then (0, 0) else if s.size < vm s then (0, 0) else (valA 0 ((B s).take (vm s)) % 2 ^ (8 * vm s - 2), (vm s : Int))
theorem TakeV_range (s : ByteArray) : 0 ≤ (TakeV s).1 ∧ (TakeV s).1 < 4611686018427387904 ∧ 0 ≤ (TakeV s).2 ∧ (TakeV s).2 ≤ 8 ∧ (TakeV s).2 ≤ (s.size : Int) := by
  unfold TakeV
  split
  · simp
  · split
    · simp
    · rename_i h1 h2
      generalize valA 0 ((B s).take (vm s)) = x
      rcases vm_cases s with ⟨_, e⟩ | ⟨_, e⟩ | ⟨_, e⟩ | ⟨_, e⟩ <;> rw [e] at h2 ⊢ <;> simp only [Int.reducePow, Nat.reduceMul, Nat.reduceSub] <;> omega
/-- The first byte without its two high bits: the rest below them. -/
theorem val_low (s : ByteArray) (h : 0 < s.size) (hm : vm s ≤ s.size) : valA 0 (((B s).take (vm s)).set 0 (bt s 0 % 64)) = valA 0 ((B s).take (vm s)) % 2 ^ (8 * vm s - 2) := by
  have hv : 1 ≤ vm s := Nat.one_le_two_pow
  obtain ⟨M, hM⟩ : ∃ M, vm s = M + 1 := ⟨vm s - 1, by omega⟩
  have e0 := drop_rd (l := B s) (n := 0) (by rw [B_length]; exact h)
  rw [List.drop_zero] at e0
  have e1 : (B s).take (vm s) = bt s 0 :: ((B s).drop 1).take M := by
    rw [hM, e0, List.take_succ_cons, bt_B s 0 (by simpa using h)]
    rfl
  have hb := bt_range s 0
  have hl : (((B s).drop 1).take M).length = M := by rw [List.length_take, List.length_drop, B_length]; omega
  have hL : Bytes (((B s).drop 1).take M) := ((B_bytes s).drop 1).take M
  have hr := valA_range _ hL
  rw [e1, List.set_cons_zero, valA, valA, valA_eq, valA_eq _ (0 * 256 + bt s 0), hl]
  rw [hl] at hr
  generalize valA 0 (((B s).drop 1).take M) = z at hr ⊢
  have ep : (2 : Int) ^ (8 * vm s - 2) = 64 * 256 ^ M := by
    rw [hM, show 8 * (M + 1) - 2 = 6 + 8 * M by omega, Int.pow_add, Int.pow_mul]
    rfl
  rw [ep]
  have hp : (0 : Int) < 256 ^ M := Int.pow_pos (by decide)
  generalize (256 : Int) ^ M = p at hr hp ⊢
  have e2 : 0 * 256 + bt s 0 = bt s 0 / 64 * 64 + bt s 0 % 64 := by omega
  have e3 : (0 * 256 + bt s 0) * p + z = (bt s 0 % 64 * p + z) + (64 * p) * (bt s 0 / 64) := by
    rw [e2, Int.add_mul, Int.mul_assoc, Int.mul_comm (bt s 0 / 64)]; omega
  have e4 : 0 * 256 + bt s 0 % 64 = bt s 0 % 64 := by omega
  rw [e3, e4, Int.add_mul_emod_self_left]
  have h1 : 0 ≤ bt s 0 % 64 * p := Int.mul_nonneg (by omega) (Int.le_of_lt hp)
  have h2 : bt s 0 % 64 * p ≤ 63 * p := Int.mul_le_mul_of_nonneg_right (by omega) (Int.le_of_lt hp)
  exact (Int.emod_eq_of_lt (by omega) (by omega)).symm
end Go.Proofs.Ytcngjidojibleaa.B
