/- Closed functions, in plain Lean: what the kernel reckons. Written by a program of this session; Lean checks it. -/
import Derived.Test.YtkfpfcpmaejeoaaGreatGFnRetriedx0
import Derived.Test.YtkfpfcpmaejeoaaGreatGFnRetriedx1
import Derived.Test.YtkfpfcpmaejeoaaGreatQTwin
set_option linter.unusedVariables false
set_option linter.unusedSimpArgs false
set_option maxRecDepth 100000
namespace Go.Proofs.YtkfpfcpmaejeoaaGreat.CFnRetried
open Go Go.Proofs Go.Proofs.YtkfpfcpmaejeoaaGreatPM Go.Proofs.YtkfpfcpmaejeoaaGreat.Q Go.Proofs.YtkfpfcpmaejeoaaGreat.GFnRetried

def internal_stringslite_IndexByte_T (N : Nat) (s : ByteArray) (c : Int) : Option ((Int × Unit) × Unit) :=
 some (((ixB s c), ()), ())
theorem internal_stringslite_IndexByte_T_eq (N : Nat) (s : ByteArray) (c : Int) : internal_stringslite_IndexByte N s c = internal_stringslite_IndexByte_T N s c := by
  rw [internal_stringslite_IndexByte.eq]
  unfold internal_stringslite_IndexByte_T
  first | rfl | (simp only [w_i64_eq, w_u64_eq, w_u32_eq, w_u8_eq, fB_eq, s_shr_eq, s_shl_eq]; done) | (simp only [w_i64_eq, w_u64_eq, w_u32_eq, w_u8_eq, fB_eq, s_shr_eq, s_shl_eq]; rfl)
def strings_IndexByte_T (N : Nat) (s : ByteArray) (c : Int) : Option ((Int × Unit) × Unit) :=
 andK (internal_stringslite_IndexByte_T N s c) fun u1 =>
 some ((u1.1.1, ()), ())
theorem strings_IndexByte_T_eq (N : Nat) (s : ByteArray) (c : Int) : strings_IndexByte N s c = strings_IndexByte_T N s c := by
  rw [strings_IndexByte.eq]
  unfold strings_IndexByte_T
  first | rfl | (simp only [w_i64_eq, w_u64_eq, w_u32_eq, w_u8_eq, fB_eq, s_shr_eq, s_shl_eq, internal_stringslite_IndexByte_T_eq]; done) | (simp only [w_i64_eq, w_u64_eq, w_u32_eq, w_u8_eq, fB_eq, s_shr_eq, s_shl_eq, internal_stringslite_IndexByte_T_eq]; rfl)
def impl_ReadHex_l0_T : Nat → ByteArray → Int → (List Int) → Option (((ByteArray × (Bool × Unit)) × Unit) ⊕ ((Unit × Unit) × ((List Int) × Unit)))
  | 0, _, _, _ => none
  | N + 1, s1, i, p0 =>
     sel (decide (i < (s1.size : Int)))
      (
      chk ((decide (0 ≤ i)) && (decide (i < (s1.size : Int)))) (
      andK (strings_IndexByte_T N (⟨#[48, 49, 50, 51, 52, 53, 54, 55, 56, 57, 97, 98, 99, 100, 101, 102]⟩ : ByteArray) ((bytesL s1).getD (Int.toNat i) 0)) fun u2 =>
      chk ((decide (0 ≤ (w_i64 (i + 1)))) && (decide ((w_i64 (i + 1)) < (s1.size : Int)))) (
      andK (strings_IndexByte_T N (⟨#[48, 49, 50, 51, 52, 53, 54, 55, 56, 57, 97, 98, 99, 100, 101, 102]⟩ : ByteArray) ((bytesL s1).getD (Int.toNat (w_i64 (i + 1))) 0)) fun u3 =>
      andK (α := ((Unit × (Bool × Unit)) × ((List Int) × Unit))) (
       sel (decide (u2.1.1 < 0))
        (
        some ((((), (true, ())), (p0, ()))))
        (
        some ((((), ((decide (u3.1.1 < 0)), ())), (p0, ()))))) fun j4 =>
      sel j4.1.2.1
       (
       some (.inl (((⟨#[]⟩ : ByteArray), (false, ())), ())))
       (
       chk (decide (j4.2.1.length + 1 < most)) (
       impl_ReadHex_l0_T N s1 (w_i64 (i + 2)) (j4.2.1 ++ [(w_u8 (w_i64 ((w_i64 (16 * u2.1.1)) + u3.1.1)))]))))))
      (
      some (.inr ((((), ()), (p0, ())))))
theorem impl_ReadHex_l0_T_eq : ∀ (N : Nat) (s1 : ByteArray) (i : Int) (p0 : (List Int)), impl_ReadHex.l0 N s1 i p0 = impl_ReadHex_l0_T N s1 i p0 := by
  intro N
  induction N with
  | zero => intros; kernel_rfl
  | succ N ih =>
    intro s1 i p0
    rw [impl_ReadHex.l0.eq]
    try simp only [ih, w_i64_eq, w_u64_eq, w_u32_eq, w_u8_eq, fB_eq, s_shr_eq, s_shl_eq, internal_stringslite_IndexByte_T_eq, strings_IndexByte_T_eq]
    rfl
def impl_ReadHex_T (N : Nat) (s : ByteArray) : Option ((ByteArray × (Bool × Unit)) × Unit) :=
 andK (α := ((Bool × Unit) × Unit)) (
  sel (!(decide ((Int.tmod (s.size : Int) 2) = 0)))
   (
   some (((true, ()), ())))
   (
   some ((((decide (3000 < (s.size : Int))), ()), ())))) fun j1 =>
 sel j1.1.1
  (
  some (((⟨#[]⟩ : ByteArray), (false, ())), ()))
  (
  andK (impl_ReadHex_l0_T N s 0 []) fun l5 =>
  orK l5 (fun x6 =>
   some ((x6.1.1, (x6.1.2.1, ())), ()))
   (fun x7 =>
   some (((strL x7.2.1), (true, ())), ())))
theorem impl_ReadHex_T_eq (N : Nat) (s : ByteArray) : impl_ReadHex N s = impl_ReadHex_T N s := by
  rw [impl_ReadHex.eq]
  unfold impl_ReadHex_T
  first | rfl | (simp only [w_i64_eq, w_u64_eq, w_u32_eq, w_u8_eq, fB_eq, s_shr_eq, s_shl_eq, internal_stringslite_IndexByte_T_eq, strings_IndexByte_T_eq, impl_ReadHex_l0_T_eq]; done) | (simp only [w_i64_eq, w_u64_eq, w_u32_eq, w_u8_eq, fB_eq, s_shr_eq, s_shl_eq, internal_stringslite_IndexByte_T_eq, strings_IndexByte_T_eq, impl_ReadHex_l0_T_eq]; rfl)
end Go.Proofs.YtkfpfcpmaejeoaaGreat.CFnRetried
