/- The program's numberOf. -/
import Derived.Test.YthkjjombaoffcaaGreatDoorQBe
import Derived.Test.YthkjjombaoffcaaGreatDoorGFnRendezvousx0
set_option linter.unusedVariables false
set_option linter.unusedSimpArgs false
namespace Go.Proofs.YthkjjombaoffcaaGreatDoor.CFnRendezvous
open Go Go.Proofs Go.Proofs.YthkjjombaoffcaaGreatDoorPM Go.Proofs.YthkjjombaoffcaaGreatDoor.Q Go.Proofs.YthkjjombaoffcaaGreatDoor.GFnRendezvous

theorem number_l0 (s : ByteArray) (j : Nat) : ∀ (i : Nat) (acc : Int), i + j = s.size → 0 ≤ acc → (acc + 1) * 256 ^ j ≤ 18446744073709551616 → s.size ≤ 1000000 →
    EvP (fun k => impl_numberOf.l0 k s (s.size : Int) acc (i : Int)) (fun r => r.1.1 = valA acc ((bytesL s).drop i)) := by
  induction j with
  | zero =>
    intro i acc hi h0 h1 hs
    refine EvP.step (fun k => impl_numberOf.l0.eq k _ _ _ _) (EvP.neg (by omega) (EvP.some ?_))
    rw [List.drop_eq_nil_of_le (by rw [bytesL_len]; omega)]; rfl
  | succ j ih =>
    intro i acc hi h0 h1 hs
    refine EvP.step (fun k => impl_numberOf.l0.eq k _ _ _ _) (EvP.pos (by omega) (EvP.chk2 (by omega) (by omega) ?_))
    rw [drop_getD (l := bytesL s) (n := i) (by rw [bytesL_len]; omega), valA, Int.toNat_natCast]
    have hb := Bytes.getD (bytesL_byte s) i
    generalize (bytesL s).getD i 0 = b at hb ⊢
    rw [Int.pow_succ] at h1
    have hp : (1 : Int) ≤ 256 ^ j := Int.pow_pos (by decide)
    have h2 : (acc * 256 + b + 1) * 256 ^ j ≤ 18446744073709551616 := by
      have : (acc * 256 + b + 1) * 256 ^ j ≤ ((acc + 1) * 256) * 256 ^ j := Int.mul_le_mul_of_nonneg_right (by omega) (by omega)
      rw [Int.mul_assoc, Int.mul_comm 256 (256 ^ j)] at this
      omega
    have h3 : acc * 256 + b + 1 ≤ 18446744073709551616 := by
      have : (acc * 256 + b + 1) * 1 ≤ (acc * 256 + b + 1) * 256 ^ j := Int.mul_le_mul_of_nonneg_left hp (by omega)
      omega
    have e0 : shlI .u64 acc 8 = acc * 256 := by
      show IntKind.u64.wrap (acc * 2 ^ 8) = _
      rw [show (2 : Int) ^ 8 = 256 from rfl, u64i (by omega) (by omega)]
    rw [e0, u64i (n := b) (by omega) (by omega), i64w (n := (i : Int) + 1) (by omega) (by omega), or_byte_u64 h0 hb (by omega)]
    exact ih (i + 1) (acc * 256 + b) (by omega) (by omega) h2 hs
theorem number_ok (s : ByteArray) (hs : s.size ≤ 8) : EvP (fun k => impl_numberOf k s) (· = ((vof s, ()), ())) := by
  refine EvP.of (fun k => impl_numberOf.eq k _) (EvP.andK (number_l0 s s.size 0 0 (by omega) (by omega) ?_ (by omega)) ?_)
  · have : s.size = 0 ∨ s.size = 1 ∨ s.size = 2 ∨ s.size = 3 ∨ s.size = 4 ∨ s.size = 5 ∨ s.size = 6 ∨ s.size = 7 ∨ s.size = 8 := by omega
    rcases this with e | e | e | e | e | e | e | e | e <;> rw [e] <;> decide
  · rintro ⟨⟨x, ⟨⟩⟩, ⟨⟩⟩ hr
    dsimp only at hr
    subst hr
    exact EvP.some rfl
end Go.Proofs.YthkjjombaoffcaaGreatDoor.CFnRendezvous
