/- The program's TakeVarint. -/
import Derived.Test.YtbfkfhadcmpndaaQVar
import Derived.Test.YtbfkfhadcmpndaaQNumImplFnFrames
set_option linter.unusedVariables false
set_option linter.unusedSimpArgs false
namespace Go.Proofs.Ytbfkfhadcmpndaa.CFnFrames
open Go Go.Proofs Go.Proofs.YtbfkfhadcmpndaaPM Go.Proofs.Ytbfkfhadcmpndaa.Q Go.Proofs.Ytbfkfhadcmpndaa.GFnFrames

theorem mask_u64 {i : Nat} (hi : i ≤ 62) {a : Int} (h0 : 0 ≤ a) (h1 : a < 18446744073709551616) : Go.bits .and .u64 a (2 ^ i - 1) = a % 2 ^ i := by
  obtain ⟨x, rfl⟩ := Int.eq_ofNat_of_zero_le h0
  have hp : 1 ≤ 2 ^ i := Nat.one_le_two_pow
  have hpj : 2 ^ i ≤ 2 ^ 62 := Nat.pow_le_pow_right (by decide) hi
  have ec : (2 : Int) ^ i - 1 = ((2 ^ i - 1 : Nat) : Int) := by push_cast [hp]; rfl
  have em : (x : Int) % 2 ^ i = ((x % 2 ^ i : Nat) : Int) := by push_cast; rfl
  rw [ec, em]
  simp only [Go.bits, BitVec.ofInt_natCast]
  change IntKind.u64.wrap (((BitVec.ofNat 64 x &&& BitVec.ofNat 64 (2 ^ i - 1)).toNat : Nat) : Int) = _
  have hx : x < 2 ^ 64 := by simp only [Nat.reducePow]; omega
  have hm : 2 ^ i - 1 < 2 ^ 64 := by simp only [Nat.reducePow] at hpj ⊢; omega
  rw [BitVec.toNat_and, BitVec.toNat_ofNat, BitVec.toNat_ofNat, Nat.mod_eq_of_lt hx, Nat.mod_eq_of_lt hm, Nat.and_two_pow_sub_one_eq_mod]
  have : x % 2 ^ i ≤ x := Nat.mod_le _ _
  exact u64i (by omega) (by omega)
theorem shl_vm (s : ByteArray) : shlI .i64 1 (shrI .u8 ((bytesL s).getD 0 0) 6) = (vm s : Int) ∧ 0 ≤ shrI .u8 ((bytesL s).getD 0 0) 6 ∧ IntKind.u64.wrap (shrI .u8 ((bytesL s).getD 0 0) 6) = shrI .u8 ((bytesL s).getD 0 0) 6 := by
  have hb := byteAt_lt s 0
  have e : shrI .u8 ((bytesL s).getD 0 0) 6 = ((byteAt s 0 / 64 : Nat) : Int) := by
    rw [byteAt_bytesL, show (6 : Int) = ((6 : Nat) : Int) from rfl, shrI_pow (by decide)]
    show (byteAt s 0 : Int) / 64 = _
    omega
  rw [e]
  refine ⟨?_, by omega, u64i (by omega) (by omega)⟩
  rcases vm_cases s with ⟨e, e'⟩ | ⟨e, e'⟩ | ⟨e, e'⟩ | ⟨e, e'⟩ <;> rw [e, e'] <;> decide +kernel
theorem Take_impl (s : ByteArray) : EvP (fun k => impl_TakeVarint k s) (· = (((TakeV s).1, ((TakeV s).2, ())), ())) := by
  refine EvP.of (fun k => impl_TakeVarint.eq k _) ?_
  have hR := TakeV_range s
  unfold TakeV at hR ⊢
  by_cases h1 : s.size = 0
  · rw [if_pos h1]
    exact EvP.pos (size_zero h1) (EvP.some rfl)
  rw [if_neg h1] at hR ⊢
  refine EvP.neg (fun h => h1 (by rw [h]; rfl)) ?_
  obtain ⟨em, e0, _⟩ := shl_vm s
  rw [em]
  have hv : 1 ≤ vm s ∧ vm s ≤ 8 := by rcases vm_cases s with ⟨_, e⟩ | ⟨_, e⟩ | ⟨_, e⟩ | ⟨_, e⟩ <;> omega
  refine EvP.chk1 (by omega) (EvP.chk1 e0 ?_)
  by_cases h2 : s.size < vm s
  · rw [if_pos h2]; exact EvP.pos (by omega) (EvP.some rfl)
  rw [if_neg h2] at hR ⊢
  refine EvP.neg (by omega) (EvP.chk2 (by omega) (by omega) ?_)
  have hz : (s.extract 0 (vm s)).size = vm s := by rw [extract_size (by omega)]; omega
  rw [Int.toNat_natCast]
  refine EvP.to (number_ok _ (by omega)) ?_
  rw [i64w (n := 8 * (vm s : Int)) (by omega) (by omega), i64w (n := 8 * (vm s : Int) - 2) (by omega) (by omega)]
  refine EvP.chk1 (by omega) (EvP.some ?_)
  have hvo : vof (s.extract 0 (vm s)) = valA 0 ((bytesL s).take (vm s)) := by unfold vof; rw [bytesL_extract, List.drop_zero]
  have hr := vof_range (s.extract 0 (vm s))
  rw [hz] at hr
  have hr2 : vof (s.extract 0 (vm s)) < 18446744073709551616 := by
    have := hr.2
    rcases vm_cases s with ⟨_, e⟩ | ⟨_, e⟩ | ⟨_, e⟩ | ⟨_, e⟩ <;> rw [e] at this <;> simp only [Int.reducePow] at this <;> rw [e] <;> omega
  have hx : Go.bits .and .u64 (vof (s.extract 0 (vm s))) (IntKind.u64.wrap (shlI .u64 1 (8 * (vm s : Int) - 2) - 1)) = vof (s.extract 0 (vm s)) % 2 ^ (8 * vm s - 2) := by
    have he : IntKind.u64.wrap (shlI .u64 1 (8 * (vm s : Int) - 2) - 1) = 2 ^ (8 * vm s - 2) - 1 := by
      rcases vm_cases s with ⟨_, e⟩ | ⟨_, e⟩ | ⟨_, e⟩ | ⟨_, e⟩ <;> rw [e] <;> decide +kernel
    rw [he]
    exact mask_u64 (by omega) hr.1 hr2
  dsimp only
  rw [hx, hvo]
  rw [i64w (by have := hR.1; dsimp only at this; omega) (by have := hR.2.1; dsimp only at this; omega)]
end Go.Proofs.Ytbfkfhadcmpndaa.CFnFrames
