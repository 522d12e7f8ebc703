/- The reference's l1Big. -/
import Derived.Test.YthkjjombaoffcaaGreatDoorQBe
import Derived.Test.YthkjjombaoffcaaGreatDoorGFnRendezvousx0
set_option linter.unusedVariables false
set_option linter.unusedSimpArgs false
namespace Go.Proofs.YthkjjombaoffcaaGreatDoor.CFnRendezvous
open Go Go.Proofs Go.Proofs.YthkjjombaoffcaaGreatDoorPM Go.Proofs.YthkjjombaoffcaaGreatDoor.Q Go.Proofs.YthkjjombaoffcaaGreatDoor.GFnRendezvous

theorem big_l0 (s : ByteArray) (j : Nat) : ∀ (i : Nat) (acc : Int), i + j = s.size → 0 ≤ acc → (acc + 1) * 256 ^ j ≤ 9223372036854775808 → s.size ≤ 1000000 →
    EvP (fun k => spec_l1Big.l0 k s acc (i : Int)) (fun r => r.1.1 = valA acc ((bytesL s).drop i)) := by
  induction j with
  | zero =>
    intro i acc hi h0 h1 hs
    refine EvP.step (fun k => spec_l1Big.l0.eq k _ _ _) (EvP.neg (by omega) (EvP.some ?_))
    rw [List.drop_eq_nil_of_le (by rw [bytesL_len]; omega)]; rfl
  | succ j ih =>
    intro i acc hi h0 h1 hs
    refine EvP.step (fun k => spec_l1Big.l0.eq k _ _ _) (EvP.pos (by omega) (EvP.chk2 (by omega) (by omega) ?_))
    rw [drop_getD (l := bytesL s) (n := i) (by rw [bytesL_len]; omega), valA, Int.toNat_natCast]
    have hb := Bytes.getD (bytesL_byte s) i
    generalize (bytesL s).getD i 0 = b at hb ⊢
    rw [Int.pow_succ] at h1
    have hp : (1 : Int) ≤ 256 ^ j := Int.pow_pos (by decide)
    have h2 : (acc * 256 + b + 1) * 256 ^ j ≤ 9223372036854775808 := by
      have : (acc * 256 + b + 1) * 256 ^ j ≤ ((acc + 1) * 256) * 256 ^ j := Int.mul_le_mul_of_nonneg_right (by omega) (by omega)
      rw [Int.mul_assoc, Int.mul_comm 256 (256 ^ j)] at this
      omega
    have h3 : acc * 256 + b + 1 ≤ 9223372036854775808 := by
      have : (acc * 256 + b + 1) * 1 ≤ (acc * 256 + b + 1) * 256 ^ j := Int.mul_le_mul_of_nonneg_left hp (by omega)
      omega
    have e0 : shlI .i64 acc 8 = acc * 256 := by
      show IntKind.i64.wrap (acc * 2 ^ 8) = _
      rw [show (2 : Int) ^ 8 = 256 from rfl, i64w (by omega) (by omega)]
    rw [e0, i64w (n := b) (by omega) (by omega), i64w (n := (i : Int) + 1) (by omega) (by omega), or_byte_i64 h0 hb (by omega)]
    exact ih (i + 1) (acc * 256 + b) (by omega) (by omega) h2 hs
/-- Of at most seven bytes, or of eight with a low first one. -/
theorem big_ok (s : ByteArray) (hs : s.size ≤ 7) : EvP (fun k => spec_l1Big k s) (· = ((vof s, ()), ())) := by
  refine EvP.of (fun k => spec_l1Big.eq k _) (EvP.andK (big_l0 s s.size 0 0 (by omega) (by omega) ?_ (by omega)) ?_)
  · have : s.size = 0 ∨ s.size = 1 ∨ s.size = 2 ∨ s.size = 3 ∨ s.size = 4 ∨ s.size = 5 ∨ s.size = 6 ∨ s.size = 7 := by omega
    rcases this with e | e | e | e | e | e | e | e <;> rw [e] <;> decide
  · rintro r hr
    rw [hr]
    exact EvP.some rfl
end Go.Proofs.YthkjjombaoffcaaGreatDoor.CFnRendezvous
