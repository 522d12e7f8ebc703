/- The reference's l1Take. -/
import Derived.Test.YtdmnpmhdindabaaQVar
import Derived.Test.YtdmnpmhdindabaaQBigSpecFnCapsules
set_option linter.unusedVariables false
set_option linter.unusedSimpArgs false
namespace Go.Proofs.Ytdmnpmhdindabaa.CFnCapsules
open Go Go.Proofs Go.Proofs.YtdmnpmhdindabaaPM Go.Proofs.Ytdmnpmhdindabaa.Q Go.Proofs.Ytdmnpmhdindabaa.GFnCapsules

theorem and63_tab : ∀ b : Fin 256, Go.bits .and .u8 ((b : Nat) : Int) 63 = ((b : Nat) : Int) % 64 := by decide +kernel
theorem shl_vm_s (s : ByteArray) : shlI .i64 1 (IntKind.u64.wrap (shrI .u8 ((bytesL s).getD 0 0) 6)) = (vm s : Int) ∧ 0 ≤ IntKind.u64.wrap (shrI .u8 ((bytesL s).getD 0 0) 6) := by
  have hb := byteAt_lt s 0
  have e : shrI .u8 ((bytesL s).getD 0 0) 6 = ((byteAt s 0 / 64 : Nat) : Int) := by
    rw [byteAt_bytesL, show (6 : Int) = ((6 : Nat) : Int) from rfl, shrI_pow (by decide)]
    show (byteAt s 0 : Int) / 64 = _
    omega
  rw [e, u64i (by omega) (by omega)]
  refine ⟨?_, by omega⟩
  rcases vm_cases s with ⟨e, e'⟩ | ⟨e, e'⟩ | ⟨e, e'⟩ | ⟨e, e'⟩ <;> rw [e, e'] <;> decide +kernel
/-- Of eight bytes, too, if the first one is low. -/
theorem big8_ok (s : ByteArray) (hs : s.size ≤ 8) (hv : vof s < 9223372036854775808) : EvP (fun k => spec_l1Big k s) (· = ((vof s, ()), ())) := by
  by_cases h7 : s.size ≤ 7
  · exact big_ok s h7
  have h8 : s.size = 8 := by omega
  refine EvP.of (fun k => spec_l1Big.eq k _) ?_
  have e : (bytesL s) = (bytesL s).getD 0 0 :: (bytesL s).drop 1 := by
    have := drop_getD (l := bytesL s) (n := 0) (by rw [bytesL_len]; omega)
    rwa [List.drop_zero] at this
  have hb := Bytes.getD (bytesL_byte s) 0
  have hl : ((bytesL s).drop 1).length = 7 := by rw [List.length_drop, bytesL_len]; omega
  have hvo : vof s = (bytesL s).getD 0 0 * 256 ^ 7 + valA 0 ((bytesL s).drop 1) := by
    unfold vof
    conv => lhs; rw [e]
    rw [valA, valA_eq, hl, Int.zero_mul, Int.zero_add]
  have hr := valA_range _ (Bytes.drop (bytesL_byte s) 1)
  have hb2 : (bytesL s).getD 0 0 ≤ 127 := by
    rw [hvo] at hv
    simp only [Int.reducePow] at hv
    omega
  refine EvP.andK (Q := fun r => r.1.1 = vof s) ?_ (fun r hr => EvP.some (by rw [hr]))
  refine EvP.step (fun k => spec_l1Big.l0.eq k _ _ _) (EvP.pos (by omega) (EvP.chk2 (by omega) (by omega) ?_))
  rw [show Int.toNat (0 : Int) = 0 from rfl, show shlI .i64 0 8 = 0 * 256 from by decide +kernel, i64w (n := (bytesL s).getD 0 0) (by omega) (by omega), or_byte_i64 (by decide) ⟨hb.1, by omega⟩ (by omega), show IntKind.i64.wrap (0 + 1) = ((1 : Nat) : Int) from by decide +kernel]
  refine (big_l0 s 7 1 _ (by omega) (by omega) (by simp only [Int.reducePow]; omega) (by omega)).mono ?_
  intro r hr
  rw [hr, hvo, valA_eq, hl]
  simp
theorem Take_spec (s : ByteArray) : EvP (fun k => spec_l1Take k s) (· = (((TakeV s).1, ((TakeV s).2, ())), ())) := by
  refine EvP.of (fun k => spec_l1Take.eq k _) ?_
  have hR := TakeV_range s
  unfold TakeV at hR ⊢
  by_cases h1 : s.size = 0
  · rw [if_pos h1]
    exact EvP.pos (size_zero h1) (EvP.some rfl)
  rw [if_neg h1] at hR ⊢
  refine EvP.neg (fun h => h1 (by rw [h]; rfl)) ?_
  obtain ⟨em, e0⟩ := shl_vm_s s
  rw [em]
  have hv : 1 ≤ vm s ∧ vm s ≤ 8 := by rcases vm_cases s with ⟨_, e⟩ | ⟨_, e⟩ | ⟨_, e⟩ | ⟨_, e⟩ <;> omega
  refine EvP.chk1 (by omega) (EvP.chk1 e0 ?_)
  by_cases h2 : s.size < vm s
  · rw [if_pos h2]; exact EvP.pos (by omega) (EvP.some rfl)
  rw [if_neg h2] at hR ⊢
  rw [Int.toNat_natCast]
  have hlen : (bytesL (s.extract 0 (vm s))).length = vm s := by rw [bytesL_len, extract_size (by omega)]; omega
  refine EvP.neg (by omega) (EvP.chk2 (by omega) (by omega) (EvP.chk1 (by omega) (EvP.chk1 (by omega) ?_)))
  have hg : (bytesL (s.extract 0 (vm s))).getD 0 0 = (byteAt s 0 : Int) := by
    rw [byteAt_bytesL, byteAt_extract (by omega)]
  have hset : (bytesL (s.extract 0 (vm s))).set 0 (Go.bits .and .u8 ((bytesL (s.extract 0 (vm s))).getD 0 0) 63) = ((bytesL s).take (vm s)).set 0 ((byteAt s 0 : Int) % 64) := by
    rw [hg, and63_tab ⟨byteAt s 0, byteAt_lt s 0⟩, bytesL_extract, List.drop_zero]
  rw [hset]
  have hby : Bytes (((bytesL s).take (vm s)).set 0 ((byteAt s 0 : Int) % 64)) := Bytes.set (Bytes.take (bytesL_byte s) _) 0 (by have := byteAt_lt s 0; omega)
  have hvof : vof (strL (((bytesL s).take (vm s)).set 0 ((byteAt s 0 : Int) % 64))) = valA 0 ((bytesL s).take (vm s)) % 2 ^ (8 * vm s - 2) := by
    unfold vof
    rw [bytesL_strL hby, val_low s (by omega) (by omega)]
  refine EvP.to (big8_ok _ (by rw [strL_size, List.length_set, List.length_take]; omega) (by rw [hvof]; have := hR.2.1; dsimp only at this; omega)) (EvP.some ?_)
  rw [hvof]
end Go.Proofs.Ytdmnpmhdindabaa.CFnCapsules
