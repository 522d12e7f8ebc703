/- The bytes of a number, one, two, four or eight, and that it is read back from them. Plain. -/
import Derived.Test.YtcngjidojibleaaVar
import Derived.Test.YtcngjidojibleaaBe
set_option linter.unusedVariables false
set_option linter.unusedSimpArgs false
namespace Go.Proofs.Ytcngjidojibleaa.B
open Go.RowKit Go.Proofs.YtcngjidojibleaaW.PrintWords Go.Proofs.YtcngjidojibleaaW.PrintLast Go.Proofs.YtcngjidojibleaaW.PrintMore

theorem valA_snoc : ∀ (l : List Int) (n b : Int), valA n (l ++ [b]) = valA n l * 256 + b
  | [], n, b => rfl
  | c :: l, n, b => by rw [List.cons_append, valA, valA_snoc l, valA]
theorem valA_BE : ∀ (m : Nat) (x : Int), valA 0 (BE m x) = x % 256 ^ m
  | 0, x => by simp [BE, valA]
  | m + 1, x => by
    rw [BE, valA_snoc, valA_BE m, Int.pow_succ]
    have hp : (0 : Int) < 256 ^ m := Int.pow_pos (by decide)
    generalize (256 : Int) ^ m = p at hp ⊢
    have h1 : x / 256 = p * (x / 256 / p) + x / 256 % p := (Int.mul_ediv_add_emod _ _).symm
    have h2 := Int.emod_nonneg (x / 256) (show p ≠ 0 by omega)
    have h3 := Int.emod_lt_of_pos (x / 256) hp
    generalize x / 256 / p = a at h1
    generalize x / 256 % p = b at h1 h2 h3 ⊢
    have h4 : x = (b * 256 + x % 256) + (p * 256) * a := by
      have e : p * 256 * a = 256 * (p * a) := by rw [Int.mul_comm p 256, Int.mul_assoc]
      rw [e]; omega
    have h5 : x % (p * 256) = (b * 256 + x % 256) % (p * 256) := by
      conv => lhs; rw [h4]
      rw [Int.add_mul_emod_self_left]
    rw [h5]
    exact (Int.emod_eq_of_lt (by omega) (by omega)).symm
theorem BE_mod : ∀ (m : Nat) (x z : Int), BE m (x + 256 ^ m * z) = BE m x
  | 0, _, _ => rfl
  | m + 1, x, z => by
    rw [BE, BE, Int.pow_succ]
    have e : x + 256 ^ m * 256 * z = x + 256 * (256 ^ m * z) := by rw [Int.mul_comm (256 ^ m) 256, Int.mul_assoc]
    rw [e, Int.add_mul_ediv_left _ _ (by decide), Int.add_mul_emod_self_left, BE_mod m]
/-- How many bytes a number takes. -/
def vsz (n : Int) : Nat := if n < 64 then 1 else if n < 16384 then 2 else if n < 1073741824 then 4 else 8
/-- What the two high bits add. -/
def vhi (m : Nat) : Int := if m = 1 then 0 else if m = 2 then 16384 else if m = 4 then 2147483648 else 13835058055282163712
/-- A number's bytes. -/
def vbs (n : Int) : ByteArray := strOfNums (BE (vsz n) (n + vhi (vsz n)))
theorem vsz_cases {n : Int} (h0 : 0 ≤ n) (h1 : n < 4611686018427387904) : (vsz n = 1 ∧ n < 64) ∨ (vsz n = 2 ∧ n < 16384) ∨ (vsz n = 4 ∧ n < 1073741824) ∨ (vsz n = 8 ∧ n < 4611686018427387904) := by
  unfold vsz
  split
  · exact .inl ⟨rfl, by omega⟩
  · split
    · exact .inr (.inl ⟨rfl, by omega⟩)
    · split
      · exact .inr (.inr (.inl ⟨rfl, by omega⟩))
      · exact .inr (.inr (.inr ⟨rfl, by omega⟩))
theorem vsz_mono {n k : Int} (h : n ≤ k) : vsz n ≤ vsz k := by
  unfold vsz
  repeat' split
  all_goals omega
theorem vbs_size (n : Int) : (vbs n).size = vsz n := by rw [vbs, strOfNums_size, BE_length]
theorem B_vbs (n : Int) : B (vbs n) = BE (vsz n) (n + vhi (vsz n)) := B_strOfNums (BE_bytes _ _)
theorem vsz_pos (n : Int) : 1 ≤ vsz n ∧ vsz n ≤ 8 := by
  unfold vsz
  repeat' split
  all_goals omega
/-- A number comes back, whatever stands behind its bytes. -/
theorem TakeV_vbs {n : Int} (h0 : 0 ≤ n) (h1 : n < 4611686018427387904) (t : ByteArray) : TakeV (vbs n ++ t) = (n, (vsz n : Int)) := by
  have hs : (vbs n ++ t).size = vsz n + t.size := by rw [ByteArray.size_append, vbs_size]
  have hp := vsz_pos n
  have hb : bt (vbs n ++ t) 0 = (n + vhi (vsz n)) / 256 ^ (vsz n - 1) % 256 := by
    rw [bt_B _ _ (by rw [hs]; show 0 < _; omega), B_append, B_vbs]
    obtain ⟨m, hm⟩ : ∃ m, vsz n = m + 1 := ⟨vsz n - 1, by omega⟩
    rw [hm, BE_front]
    rfl
  have hm : vm (vbs n ++ t) = vsz n := by
    unfold vm
    rw [hb]
    rcases vsz_cases h0 h1 with ⟨e, h⟩ | ⟨e, h⟩ | ⟨e, h⟩ | ⟨e, h⟩
    · rw [e]; simp only [vhi, if_true, Nat.sub_self, Int.pow_zero]
      rw [show (n + 0) / 1 % 256 / 64 = 0 by omega]; rfl
    · rw [e]; simp [vhi]
      rw [show (n + 16384) / 256 % 256 / 64 = 1 by omega]; rfl
    · rw [e]; simp [vhi]
      rw [show (n + 2147483648) / 16777216 % 256 / 64 = 2 by omega]; rfl
    · rw [e]; simp [vhi]
      rw [show (n + 13835058055282163712) / 72057594037927936 % 256 / 64 = 3 by omega]; rfl
  unfold TakeV
  rw [if_neg (by omega), hm, if_neg (by omega), B_append, B_vbs, List.take_append_of_le_length (by rw [BE_length]; exact Nat.le_refl _), List.take_of_length_le (by rw [BE_length]; exact Nat.le_refl _), valA_BE]
  rcases vsz_cases h0 h1 with ⟨e, h⟩ | ⟨e, h⟩ | ⟨e, h⟩ | ⟨e, h⟩ <;> rw [e] <;> simp [vhi] <;> omega
end Go.Proofs.Ytcngjidojibleaa.B
