/- The program's bigEndian and numberOf. -/
import Derived.Test.YtcngjidojibleabQBe
import Derived.Test.YtcngjidojibleabGFnCountedx0
set_option linter.unusedVariables false
set_option linter.unusedSimpArgs false
namespace Go.Proofs.Ytcngjidojibleab.CFnCounted
open Go Go.Proofs Go.Proofs.YtcngjidojibleabPM Go.Proofs.Ytcngjidojibleab.Q Go.Proofs.Ytcngjidojibleab.GFnCounted

theorem bigEndian_l0 (j : Nat) : ∀ (x : Int) (l : List Int), 0 ≤ x → j ≤ l.length → l.length ≤ 1000000 → EvP (fun k => impl_bigEndian.l0 k x ((j : Int) - 1) l) (fun r => r.2.1 = BE j x ++ l.drop j) := by
  induction j with
  | zero =>
    intro x l hx hl hz
    exact EvP.step (fun k => impl_bigEndian.l0.eq k _ _ _) (EvP.neg (by omega) (EvP.some (by simp [BE])))
  | succ j ih =>
    intro x l hx hl hz
    refine EvP.step (fun k => impl_bigEndian.l0.eq k _ _ _) ?_
    rw [show ((j + 1 : Nat) : Int) - 1 = (j : Int) by omega]
    refine EvP.pos (by omega) (EvP.chk2 (by omega) (by omega) ?_)
    rw [i64w (n := (j : Int) - 1) (by omega) (by omega), Int.toNat_natCast, show (8 : Int) = ((8 : Nat) : Int) from rfl, shrI_pow (by decide), show (2 : Int) ^ 8 = 256 from rfl, u8w]
    refine (ih _ _ (by omega) (by simp; omega) (by simp; omega)).mono ?_
    intro r hr
    rw [hr, set_drop_self _ _ _ (by omega), BE]
    simp
theorem smallI_ok {m : Nat} (h : m ≤ 1000000) : smallI (m : Int) = true := by show Nat.blt m 68719476736 = true; rw [Nat.blt_eq]; omega
theorem bigEndian_ok (x : Int) (m : Nat) (hx : 0 ≤ x) (hm : m ≤ 1000000) : EvP (fun k => impl_bigEndian k x (m : Int)) (· = ((be m x, ()), ())) := by
  refine EvP.of (fun k => impl_bigEndian.eq k _ _) (EvP.chk (by simp [smallI_ok hm]) ?_)
  rw [i64w (n := (m : Int) - 1) (by omega) (by omega), Int.toNat_natCast]
  refine EvP.andK (bigEndian_l0 m x (List.replicate m 0) hx (by simp) (by simp; omega)) ?_
  rintro r hr
  rw [List.drop_eq_nil_of_le (by simp), List.append_nil] at hr
  rw [hr]
  exact EvP.some rfl
theorem number_l0 (s : ByteArray) (j : Nat) : ∀ (i : Nat) (acc : Int), i + j = s.size → 0 ≤ acc → (acc + 1) * 256 ^ j ≤ 18446744073709551616 → s.size ≤ 1000000 →
    EvP (fun k => impl_numberOf.l0 k s (s.size : Int) acc (i : Int)) (fun r => r.1.1 = valA acc ((bytesL s).drop i)) := by
  induction j with
  | zero =>
    intro i acc hi h0 h1 hs
    refine EvP.step (fun k => impl_numberOf.l0.eq k _ _ _ _) (EvP.neg (by omega) (EvP.some ?_))
    rw [List.drop_eq_nil_of_le (by rw [bytesL_len]; omega)]; rfl
  | succ j ih =>
    intro i acc hi h0 h1 hs
    refine EvP.step (fun k => impl_numberOf.l0.eq k _ _ _ _) (EvP.pos (by omega) (EvP.chk2 (by omega) (by omega) ?_))
    rw [drop_getD (l := bytesL s) (n := i) (by rw [bytesL_len]; omega), valA, Int.toNat_natCast]
    have hb := Bytes.getD (bytesL_byte s) i
    generalize (bytesL s).getD i 0 = b at hb ⊢
    rw [Int.pow_succ] at h1
    have hp : (1 : Int) ≤ 256 ^ j := Int.pow_pos (by decide)
    have h2 : (acc * 256 + b + 1) * 256 ^ j ≤ 18446744073709551616 := by
      have : (acc * 256 + b + 1) * 256 ^ j ≤ ((acc + 1) * 256) * 256 ^ j := Int.mul_le_mul_of_nonneg_right (by omega) (by omega)
      rw [Int.mul_assoc, Int.mul_comm 256 (256 ^ j)] at this
      omega
    have h3 : acc * 256 + b + 1 ≤ 18446744073709551616 := by
      have : (acc * 256 + b + 1) * 1 ≤ (acc * 256 + b + 1) * 256 ^ j := Int.mul_le_mul_of_nonneg_left hp (by omega)
      omega
    have e0 : shlI .u64 acc 8 = acc * 256 := by
      show IntKind.u64.wrap (acc * 2 ^ 8) = _
      rw [show (2 : Int) ^ 8 = 256 from rfl, u64i (by omega) (by omega)]
    rw [e0, u64i (n := b) (by omega) (by omega), i64w (n := (i : Int) + 1) (by omega) (by omega), or_byte_u64 h0 hb (by omega)]
    exact ih (i + 1) (acc * 256 + b) (by omega) (by omega) h2 hs
theorem number_ok (s : ByteArray) (hs : s.size ≤ 8) : EvP (fun k => impl_numberOf k s) (· = ((vof s, ()), ())) := by
  refine EvP.of (fun k => impl_numberOf.eq k _) (EvP.andK (number_l0 s s.size 0 0 (by omega) (by omega) ?_ (by omega)) ?_)
  · have : s.size = 0 ∨ s.size = 1 ∨ s.size = 2 ∨ s.size = 3 ∨ s.size = 4 ∨ s.size = 5 ∨ s.size = 6 ∨ s.size = 7 ∨ s.size = 8 := by omega
    rcases this with e | e | e | e | e | e | e | e | e <;> rw [e] <;> decide
  · rintro r hr
    rw [hr]
    exact EvP.some rfl
end Go.Proofs.Ytcngjidojibleab.CFnCounted
