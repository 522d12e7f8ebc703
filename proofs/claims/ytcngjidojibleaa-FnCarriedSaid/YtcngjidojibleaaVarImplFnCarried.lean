/- The program's numberOf and TakeVarint read a number as told. -/
import Derived.Test.YtcngjidojibleaaVar
import Derived.Test.YtcngjidojibleaaPFnCarriedx0
import Derived.Test.YtcngjidojibleaaPFnCarriedx1
import Derived.Test.YtcngjidojibleaaPFnCarriedx2
import Derived.Test.YtcngjidojibleaaPFnCarriedx3
import Derived.Test.YtcngjidojibleaaPFnCarriedx4
import Derived.Test.YtcngjidojibleaaPFnCarriedx5
set_option linter.unusedVariables false
set_option linter.unusedSimpArgs false
namespace Go.Proofs.Ytcngjidojibleaa.CFnCarried
open Go.RowKit Go.Proofs.Ytcngjidojibleaa.B Go.Proofs.Ytcngjidojibleaa.PFnCarried Go.Proofs.YtcngjidojibleaaW.PrintWords Go.Proofs.YtcngjidojibleaaW.PrintLast Go.Proofs.YtcngjidojibleaaW.PrintMore

theorem number_l0 (s : ByteArray) (hs : s.size ≤ 8) (j : Nat) : ∀ (i : Nat) (acc : Int), i + j = s.size → 0 ≤ acc → (acc + 1) * 256 ^ j ≤ 18446744073709551616 →
    EvP (fun k => impl_numberOf.l0 k s acc (s.size : Int) (i : Int)) (· = valA acc ((B s).drop i)) := by
  induction j with
  | zero =>
    intro i acc hi h0 h1
    refine EvP.step (fun k => by rw [impl_numberOf.l0]) ?_
    refine EvP.neg (by omega) (EvP.some ?_)
    rw [List.drop_eq_nil_of_le (by rw [B_length]; omega)]; rfl
  | succ j ih =>
    intro i acc hi h0 h1
    refine EvP.step (fun k => by rw [impl_numberOf.l0]) ?_
    refine EvP.pos (by omega) (EvP.pos (by omega) (EvP.pos (by omega) ?_))
    rw [drop_rd (l := B s) (n := i) (by rw [B_length]; omega), valA, bt_B s _ (by omega)]
    have hb := bytes_rd (B_bytes s) (i : Int)
    generalize rd (B s) (i : Int) = b at hb ⊢
    rw [Int.pow_succ] at h1
    have hp : (1 : Int) ≤ 256 ^ j := Int.pow_pos (by decide)
    have h2 : (acc * 256 + b + 1) * 256 ^ j ≤ 18446744073709551616 := by
      have : (acc * 256 + b + 1) * 256 ^ j ≤ ((acc + 1) * 256) * 256 ^ j := Int.mul_le_mul_of_nonneg_right (by omega) (by omega)
      rw [Int.mul_assoc, Int.mul_comm 256 (256 ^ j)] at this
      omega
    have h3 : acc * 256 + b + 1 ≤ 18446744073709551616 := by
      have : (acc * 256 + b + 1) * 1 ≤ (acc * 256 + b + 1) * 256 ^ j := Int.mul_le_mul_of_nonneg_left hp (by omega)
      omega
    rw [u64w_id (n := acc * 256) (by omega) (by omega), u64w_id (n := b) (by omega) (by omega), w64 (n := (i : Int) + 1) (by omega) (by omega)]
    have e : Go.bits .or .u64 (acc * 256) b = acc * 256 + b :=
      bits_join .u64 64 (by decide) wraps_u64 8 (acc * 256) b (by omega) (by simp only [Int.reducePow]; omega) (by simp only [Int.reducePow]; omega) hb.1 (by simp only [Int.reducePow]; omega) (by simp only [Int.reducePow]; omega)
    rw [e]
    exact ih (i + 1) (acc * 256 + b) (by omega) (by omega) h2
theorem number_ok (s : ByteArray) (hs : s.size ≤ 8) : EvP (fun k => impl_numberOf.f k s) (· = valA 0 (B s)) := by
  simp only [impl_numberOf.f]
  refine number_l0 s hs s.size 0 0 (by omega) (by omega) ?_
  have : s.size = 0 ∨ s.size = 1 ∨ s.size = 2 ∨ s.size = 3 ∨ s.size = 4 ∨ s.size = 5 ∨ s.size = 6 ∨ s.size = 7 ∨ s.size = 8 := by omega
  rcases this with e | e | e | e | e | e | e | e | e <;> rw [e] <;> decide
theorem Take_impl (s : ByteArray) : EvP (fun k => impl_TakeVarint.f k s) (· = TakeV s) := by
  unfold TakeV
  simp only [impl_TakeVarint.f]
  by_cases h1 : s.size = 0
  · rw [if_pos h1]
    refine EvP.pos ?_ (EvP.some rfl)
    rw [ByteArray.toList_eq]
    exact List.eq_nil_of_length_eq_zero (by rw [Array.length_toList]; exact h1)
  rw [if_neg h1]
  refine EvP.neg (fun h => h1 (by rw [ByteArray.toList_eq] at h; have := congrArg List.length h; rw [Array.length_toList] at this; exact this)) ?_
  have hb := bt_range s 0
  have em : shl .i64 1 (bt s 0 / 64) = (vm s : Int) := by rcases vm_cases s with ⟨e, e'⟩ | ⟨e, e'⟩ | ⟨e, e'⟩ | ⟨e, e'⟩ <;> rw [e, e'] <;> decide
  rw [em]
  have hv : 1 ≤ vm s ∧ vm s ≤ 8 := by rcases vm_cases s with ⟨_, e⟩ | ⟨_, e⟩ | ⟨_, e⟩ | ⟨_, e⟩ <;> omega
  refine EvP.pos (by omega) (EvP.pos (by omega) ?_)
  by_cases h2 : s.size < vm s
  · rw [if_pos h2]; exact EvP.pos (by omega) (EvP.some rfl)
  rw [if_neg h2]
  refine EvP.neg (by omega) (EvP.pos (by omega) (EvP.pos (by omega) ?_))
  have hz : (s.extract 0 (vm s)).size = vm s := by rw [ByteArray.size_extract]; omega
  rw [Int.toNat_natCast]
  refine EvP.bind (number_ok _ (by omega)) ?_
  rintro t rfl
  rw [B_extract, List.drop_zero, w64 (n := 8 * (vm s : Int)) (by omega) (by omega), w64 (n := 8 * (vm s : Int) - 2) (by omega) (by omega)]
  refine EvP.pos (by omega) (EvP.some ?_)
  have hr := valA_range _ ((B_bytes s).take (vm s))
  have hl : ((B s).take (vm s)).length = vm s := by rw [List.length_take, B_length]; omega
  rw [hl] at hr
  have hr2 : valA 0 ((B s).take (vm s)) < 18446744073709551616 := by
    have := hr.2
    rcases vm_cases s with ⟨_, e⟩ | ⟨_, e⟩ | ⟨_, e⟩ | ⟨_, e⟩ <;> rw [e] at this <;> simp only [Int.reducePow] at this <;> rw [e] <;> omega
  have hk : ∀ i : Nat, i ≤ 62 → IntKind.u64.wrap (shl .u64 1 (i : Int) - 1) = 2 ^ i - 1 → Go.bits .and .u64 (valA 0 ((B s).take (vm s))) (IntKind.u64.wrap (shl .u64 1 (i : Int) - 1)) = valA 0 ((B s).take (vm s)) % 2 ^ i := by
    intro i hi he
    rw [he]
    exact bits_mask .u64 64 (by decide) wraps_u64 i (by omega) _ hr.1 (by simp only [Int.reducePow]; omega)
  have hx : Go.bits .and .u64 (valA 0 ((B s).take (vm s))) (IntKind.u64.wrap (shl .u64 1 (8 * (vm s : Int) - 2) - 1)) = valA 0 ((B s).take (vm s)) % 2 ^ (8 * vm s - 2) := by
    rw [show 8 * (vm s : Int) - 2 = ((8 * vm s - 2 : Nat) : Int) by omega]
    refine hk _ (by omega) ?_
    rcases vm_cases s with ⟨_, e⟩ | ⟨_, e⟩ | ⟨_, e⟩ | ⟨_, e⟩ <;> rw [e] <;> decide
  rw [hx]
  have hR := TakeV_range s
  unfold TakeV at hR
  rw [if_neg h1, if_neg h2] at hR
  simp only at hR
  rw [w64 (by omega) (by omega)]
end Go.Proofs.Ytcngjidojibleaa.CFnCarried
