/- The program's numberOf reads a number as told. -/
import Derived.Test.YtcngjidojibleaaVar
import Derived.Test.YtcngjidojibleaaPFnGhashx0
import Derived.Test.YtcngjidojibleaaPFnGhashx1
import Derived.Test.YtcngjidojibleaaPFnGhashx2
import Derived.Test.YtcngjidojibleaaPFnGhashx3
import Derived.Test.YtcngjidojibleaaPFnGhashx4
import Derived.Test.YtcngjidojibleaaPFnGhashx5
import Derived.Test.YtcngjidojibleaaPFnGhashx6
set_option linter.unusedVariables false
set_option linter.unusedSimpArgs false
namespace Go.Proofs.Ytcngjidojibleaa.CFnGhash
open Go.RowKit Go.Proofs.Ytcngjidojibleaa.B Go.Proofs.Ytcngjidojibleaa.PFnGhash Go.Proofs.YtcngjidojibleaaW.PrintWords Go.Proofs.YtcngjidojibleaaW.PrintLast Go.Proofs.YtcngjidojibleaaW.PrintMore

theorem number_l0 (s : ByteArray) (hs : s.size ≤ 8) (j : Nat) : ∀ (i : Nat) (acc : Int), i + j = s.size → 0 ≤ acc → (acc + 1) * 256 ^ j ≤ 18446744073709551616 →
    EvP (fun k => impl_numberOf.l0 k s acc (s.size : Int) (i : Int)) (· = valA acc ((B s).drop i)) := by
  induction j with
  | zero =>
    intro i acc hi h0 h1
    refine EvP.step (fun k => by rw [impl_numberOf.l0]) ?_
    refine EvP.neg (by omega) (EvP.some ?_)
    rw [List.drop_eq_nil_of_le (by rw [B_length]; omega)]; rfl
  | succ j ih =>
    intro i acc hi h0 h1
    refine EvP.step (fun k => by rw [impl_numberOf.l0]) ?_
    refine EvP.pos (by omega) (EvP.pos (by omega) (EvP.pos (by omega) ?_))
    rw [drop_rd (l := B s) (n := i) (by rw [B_length]; omega), valA, bt_B s _ (by omega)]
    have hb := bytes_rd (B_bytes s) (i : Int)
    generalize rd (B s) (i : Int) = b at hb ⊢
    rw [Int.pow_succ] at h1
    have hp : (1 : Int) ≤ 256 ^ j := Int.pow_pos (by decide)
    have h2 : (acc * 256 + b + 1) * 256 ^ j ≤ 18446744073709551616 := by
      have : (acc * 256 + b + 1) * 256 ^ j ≤ ((acc + 1) * 256) * 256 ^ j := Int.mul_le_mul_of_nonneg_right (by omega) (by omega)
      rw [Int.mul_assoc, Int.mul_comm 256 (256 ^ j)] at this
      omega
    have h3 : acc * 256 + b + 1 ≤ 18446744073709551616 := by
      have : (acc * 256 + b + 1) * 1 ≤ (acc * 256 + b + 1) * 256 ^ j := Int.mul_le_mul_of_nonneg_left hp (by omega)
      omega
    rw [u64w_id (n := acc * 256) (by omega) (by omega), u64w_id (n := b) (by omega) (by omega), w64 (n := (i : Int) + 1) (by omega) (by omega)]
    have e : Go.bits .or .u64 (acc * 256) b = acc * 256 + b :=
      bits_join .u64 64 (by decide) wraps_u64 8 (acc * 256) b (by omega) (by simp only [Int.reducePow]; omega) (by simp only [Int.reducePow]; omega) hb.1 (by simp only [Int.reducePow]; omega) (by simp only [Int.reducePow]; omega)
    rw [e]
    exact ih (i + 1) (acc * 256 + b) (by omega) (by omega) h2
theorem number_ok (s : ByteArray) (hs : s.size ≤ 8) : EvP (fun k => impl_numberOf.f k s) (· = valA 0 (B s)) := by
  simp only [impl_numberOf.f]
  refine number_l0 s hs s.size 0 0 (by omega) (by omega) ?_
  have : s.size = 0 ∨ s.size = 1 ∨ s.size = 2 ∨ s.size = 3 ∨ s.size = 4 ∨ s.size = 5 ∨ s.size = 6 ∨ s.size = 7 ∨ s.size = 8 := by omega
  rcases this with e | e | e | e | e | e | e | e | e <;> rw [e] <;> decide
end Go.Proofs.Ytcngjidojibleaa.CFnGhash
