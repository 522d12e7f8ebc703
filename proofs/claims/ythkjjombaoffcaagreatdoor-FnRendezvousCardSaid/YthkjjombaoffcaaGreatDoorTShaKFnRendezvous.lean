/- Closed functions, in plain Lean: what the kernel reckons. Written by a program of this session; Lean checks it. -/
import Derived.Test.YthkjjombaoffcaaGreatDoorGFnRendezvousx0
import Derived.Test.YthkjjombaoffcaaGreatDoorQTwin
set_option linter.unusedVariables false
set_option linter.unusedSimpArgs false
set_option maxRecDepth 100000
namespace Go.Proofs.YthkjjombaoffcaaGreatDoor.CFnRendezvous
open Go Go.Proofs Go.Proofs.YthkjjombaoffcaaGreatDoorPM Go.Proofs.YthkjjombaoffcaaGreatDoor.Q Go.Proofs.YthkjjombaoffcaaGreatDoor.GFnRendezvous

def impl_primes_l1_T : Nat → Int → Int → Bool → Int → (List Nat) → Option ((Unit × (Bool × Unit)) × ((List Nat) × Unit))
  | 0, _, _, _, _, _ => none
  | N + 1, many2, n1, prime, k, p01 =>
     sel (decide ((w_i64 (k * k)) ≤ n1))
      (
      andK (α := ((Unit × (Bool × Unit)) × ((List Nat) × Unit))) (
       sel prime
        (
        chk (k != 0) (
        some ((((), ((!(decide ((Int.tmod n1 k) = 0))), ())), (p01, ())))))
        (
        some ((((), (false, ())), (p01, ()))))) fun j1 =>
      impl_primes_l1_T N many2 n1 j1.1.2.1 (w_i64 (k + 1)) j1.2.1)
      (
      some ((((), (prime, ())), (p01, ()))))
theorem impl_primes_l1_T_eq : ∀ (N : Nat) (many2 : Int) (n1 : Int) (prime : Bool) (k : Int) (p01 : (List Nat)), impl_primes.l1 N many2 n1 prime k p01 = impl_primes_l1_T N many2 n1 prime k p01 := by
  intro N
  induction N with
  | zero => intros; kernel_rfl
  | succ N ih =>
    intro many2 n1 prime k p01
    rw [impl_primes.l1.eq]
    try simp only [ih, w_i64_eq, w_u64_eq, w_u32_eq, w_u8_eq, fB_eq, s_shr_eq, s_shl_eq]
    rfl
def impl_primes_l0_T : Nat → Int → Int → (List Nat) → Option ((Unit × Unit) × ((List Nat) × Unit))
  | 0, _, _, _ => none
  | N + 1, many1, n, p0 =>
     sel (decide ((p0.length : Int) < many1))
      (
      andK (α := ((Unit × Unit) × ((List Nat) × Unit))) (
       andK (impl_primes_l1_T N many1 n true 2 p0) fun l2 =>
       sel l2.1.2.1
        (
        chk (decide (l2.2.1.length + 1 < most)) (
        some ((((), ()), ((l2.2.1 ++ [(fOfI n)]), ())))))
        (
        some ((((), ()), (l2.2.1, ()))))) fun j3 =>
      impl_primes_l0_T N many1 (w_i64 (n + 1)) j3.2.1)
      (
      some ((((), ()), (p0, ()))))
theorem impl_primes_l0_T_eq : ∀ (N : Nat) (many1 : Int) (n : Int) (p0 : (List Nat)), impl_primes.l0 N many1 n p0 = impl_primes_l0_T N many1 n p0 := by
  intro N
  induction N with
  | zero => intros; kernel_rfl
  | succ N ih =>
    intro many1 n p0
    rw [impl_primes.l0.eq]
    try simp only [ih, w_i64_eq, w_u64_eq, w_u32_eq, w_u8_eq, fB_eq, s_shr_eq, s_shl_eq, impl_primes_l1_T_eq]
    rfl
def impl_primes_T (N : Nat) (many : Int) : Option ((Unit × Unit) × ((List Nat) × Unit)) :=
 andK (impl_primes_l0_T N many 2 []) fun l4 =>
 some (((), ()), (l4.2.1, ()))
theorem impl_primes_T_eq (N : Nat) (many : Int) : impl_primes N many = impl_primes_T N many := by
  rw [impl_primes.eq]
  unfold impl_primes_T
  first | rfl | (simp only [w_i64_eq, w_u64_eq, w_u32_eq, w_u8_eq, fB_eq, s_shr_eq, s_shl_eq, impl_primes_l1_T_eq, impl_primes_l0_T_eq]; done) | (simp only [w_i64_eq, w_u64_eq, w_u32_eq, w_u8_eq, fB_eq, s_shr_eq, s_shl_eq, impl_primes_l1_T_eq, impl_primes_l0_T_eq]; rfl)
def spec_l4Primes_l1_T : Nat → Int → Int → Int → Bool → Int → (List Int) → Option ((Unit × (Bool × Unit)) × ((List Int) × Unit))
  | 0, _, _, _, _, _, _ => none
  | N + 1, n2, p1, t15, prime, t16, p01 =>
     sel (decide (t16 < t15))
      (
      chk ((decide (0 ≤ t16)) && (decide (t16 < (p01.length : Int)))) (
      andK (α := ((Unit × (Bool × (Unit × Unit))) × ((List Int) × Unit))) (
       sel prime
        (
        chk ((p01.getD (Int.toNat t16) 0) != 0) (
        some ((((), ((!(decide ((Int.tmod p1 (p01.getD (Int.toNat t16) 0)) = 0))), ((), ()))), (p01, ())))))
        (
        some ((((), (false, ((), ()))), (p01, ()))))) fun j1 =>
      spec_l4Primes_l1_T N n2 p1 t15 j1.1.2.1 (w_i64 (t16 + 1)) j1.2.1))
      (
      some ((((), (prime, ())), (p01, ()))))
theorem spec_l4Primes_l1_T_eq : ∀ (N : Nat) (n2 : Int) (p1 : Int) (t15 : Int) (prime : Bool) (t16 : Int) (p01 : (List Int)), spec_l4Primes.l1 N n2 p1 t15 prime t16 p01 = spec_l4Primes_l1_T N n2 p1 t15 prime t16 p01 := by
  intro N
  induction N with
  | zero => intros; kernel_rfl
  | succ N ih =>
    intro n2 p1 t15 prime t16 p01
    rw [spec_l4Primes.l1.eq]
    try simp only [ih, w_i64_eq, w_u64_eq, w_u32_eq, w_u8_eq, fB_eq, s_shr_eq, s_shl_eq, impl_primes_l1_T_eq, impl_primes_l0_T_eq, impl_primes_T_eq]
    rfl
def spec_l4Primes_l0_T : Nat → Int → Int → (List Int) → Option ((Unit × Unit) × ((List Int) × Unit))
  | 0, _, _, _ => none
  | N + 1, n1, p, p0 =>
     sel (decide ((p0.length : Int) < n1))
      (
      andK (α := ((Unit × Unit) × ((List Int) × Unit))) (
       andK (spec_l4Primes_l1_T N n1 p (p0.length : Int) true 0 p0) fun l2 =>
       sel l2.1.2.1
        (
        chk (decide (l2.2.1.length + 1 < most)) (
        some ((((), ()), ((l2.2.1 ++ [p]), ())))))
        (
        some ((((), ()), (l2.2.1, ()))))) fun j3 =>
      spec_l4Primes_l0_T N n1 (w_i64 (p + 1)) j3.2.1)
      (
      some ((((), ()), (p0, ()))))
theorem spec_l4Primes_l0_T_eq : ∀ (N : Nat) (n1 : Int) (p : Int) (p0 : (List Int)), spec_l4Primes.l0 N n1 p p0 = spec_l4Primes_l0_T N n1 p p0 := by
  intro N
  induction N with
  | zero => intros; kernel_rfl
  | succ N ih =>
    intro n1 p p0
    rw [spec_l4Primes.l0.eq]
    try simp only [ih, w_i64_eq, w_u64_eq, w_u32_eq, w_u8_eq, fB_eq, s_shr_eq, s_shl_eq, impl_primes_l1_T_eq, impl_primes_l0_T_eq, impl_primes_T_eq, spec_l4Primes_l1_T_eq]
    rfl
def spec_l4Primes_T (N : Nat) (n : Int) : Option ((Unit × Unit) × ((List Int) × Unit)) :=
 andK (spec_l4Primes_l0_T N n 2 []) fun l4 =>
 some (((), ()), (l4.2.1, ()))
theorem spec_l4Primes_T_eq (N : Nat) (n : Int) : spec_l4Primes N n = spec_l4Primes_T N n := by
  rw [spec_l4Primes.eq]
  unfold spec_l4Primes_T
  first | rfl | (simp only [w_i64_eq, w_u64_eq, w_u32_eq, w_u8_eq, fB_eq, s_shr_eq, s_shl_eq, impl_primes_l1_T_eq, impl_primes_l0_T_eq, impl_primes_T_eq, spec_l4Primes_l1_T_eq, spec_l4Primes_l0_T_eq]; done) | (simp only [w_i64_eq, w_u64_eq, w_u32_eq, w_u8_eq, fB_eq, s_shr_eq, s_shl_eq, impl_primes_l1_T_eq, impl_primes_l0_T_eq, impl_primes_T_eq, spec_l4Primes_l1_T_eq, spec_l4Primes_l0_T_eq]; rfl)
def math_Sqrt_T (N : Nat) (x : Nat) : Option ((Nat × Unit) × Unit) :=
 chk (fSqOk x) (
 some (((fSq x), ()), ()))
theorem math_Sqrt_T_eq (N : Nat) (x : Nat) : math_Sqrt N x = math_Sqrt_T N x := by
  rw [math_Sqrt.eq]
  unfold math_Sqrt_T
  first | rfl | (simp only [w_i64_eq, w_u64_eq, w_u32_eq, w_u8_eq, fB_eq, s_shr_eq, s_shl_eq, impl_primes_l1_T_eq, impl_primes_l0_T_eq, impl_primes_T_eq, spec_l4Primes_l1_T_eq, spec_l4Primes_l0_T_eq, spec_l4Primes_T_eq]; done) | (simp only [w_i64_eq, w_u64_eq, w_u32_eq, w_u8_eq, fB_eq, s_shr_eq, s_shl_eq, impl_primes_l1_T_eq, impl_primes_l0_T_eq, impl_primes_T_eq, spec_l4Primes_l1_T_eq, spec_l4Primes_l0_T_eq, spec_l4Primes_T_eq]; rfl)
def impl_behindPoint_l0_T : Nat → Int → Int → (List Nat) → (List Int) → Option ((Unit × Unit) × ((List Nat) × ((List Int) × Unit)))
  | 0, _, _, _, _ => none
  | N + 1, t11, t12, p0, p1 =>
     sel (decide (t12 < t11))
      (
      chk ((decide (0 ≤ t12)) && (decide (t12 < (p0.length : Int)))) (
      andK (math_Sqrt_T N (p0.getD (Int.toNat t12) 0)) fun u2 =>
      chk (fArOk .mul u2.1.1 4751297606875873280) (
      chk (fToOk .u64 (fAr .mul u2.1.1 4751297606875873280)) (
      chk (decide (p1.length + 1 < most)) (
      impl_behindPoint_l0_T N t11 (w_i64 (t12 + 1)) p0 (p1 ++ [(w_u32 (fToI .u64 (fAr .mul u2.1.1 4751297606875873280)))]))))))
      (
      some ((((), ()), (p0, (p1, ())))))
theorem impl_behindPoint_l0_T_eq : ∀ (N : Nat) (t11 : Int) (t12 : Int) (p0 : (List Nat)) (p1 : (List Int)), impl_behindPoint.l0 N t11 t12 p0 p1 = impl_behindPoint_l0_T N t11 t12 p0 p1 := by
  intro N
  induction N with
  | zero => intros; kernel_rfl
  | succ N ih =>
    intro t11 t12 p0 p1
    rw [impl_behindPoint.l0.eq]
    try simp only [ih, w_i64_eq, w_u64_eq, w_u32_eq, w_u8_eq, fB_eq, s_shr_eq, s_shl_eq, impl_primes_l1_T_eq, impl_primes_l0_T_eq, impl_primes_T_eq, spec_l4Primes_l1_T_eq, spec_l4Primes_l0_T_eq, spec_l4Primes_T_eq, math_Sqrt_T_eq]
    rfl
def impl_behindPoint_T (N : Nat) (many : Int) : Option ((Unit × Unit) × ((List Int) × Unit)) :=
 andK (impl_primes_T N many) fun u1 =>
 andK (impl_behindPoint_l0_T N (u1.2.1.length : Int) 0 u1.2.1 []) fun l3 =>
 some (((), ()), (l3.2.2.1, ()))
theorem impl_behindPoint_T_eq (N : Nat) (many : Int) : impl_behindPoint N many = impl_behindPoint_T N many := by
  rw [impl_behindPoint.eq]
  unfold impl_behindPoint_T
  first | rfl | (simp only [w_i64_eq, w_u64_eq, w_u32_eq, w_u8_eq, fB_eq, s_shr_eq, s_shl_eq, impl_primes_l1_T_eq, impl_primes_l0_T_eq, impl_primes_T_eq, spec_l4Primes_l1_T_eq, spec_l4Primes_l0_T_eq, spec_l4Primes_T_eq, math_Sqrt_T_eq, impl_behindPoint_l0_T_eq]; done) | (simp only [w_i64_eq, w_u64_eq, w_u32_eq, w_u8_eq, fB_eq, s_shr_eq, s_shl_eq, impl_primes_l1_T_eq, impl_primes_l0_T_eq, impl_primes_T_eq, spec_l4Primes_l1_T_eq, spec_l4Primes_l0_T_eq, spec_l4Primes_T_eq, math_Sqrt_T_eq, impl_behindPoint_l0_T_eq]; rfl)
def impl_firstState_T (N : Nat) : Option ((Unit × Unit) × ((List Int) × Unit)) :=
 andK (impl_behindPoint_T N 8) fun u1 =>
 some (((), ()), (u1.2.1, ()))
theorem impl_firstState_T_eq (N : Nat) : impl_firstState N = impl_firstState_T N := by
  rw [impl_firstState.eq]
  unfold impl_firstState_T
  first | rfl | (simp only [w_i64_eq, w_u64_eq, w_u32_eq, w_u8_eq, fB_eq, s_shr_eq, s_shl_eq, impl_primes_l1_T_eq, impl_primes_l0_T_eq, impl_primes_T_eq, spec_l4Primes_l1_T_eq, spec_l4Primes_l0_T_eq, spec_l4Primes_T_eq, math_Sqrt_T_eq, impl_behindPoint_l0_T_eq, impl_behindPoint_T_eq]; done) | (simp only [w_i64_eq, w_u64_eq, w_u32_eq, w_u8_eq, fB_eq, s_shr_eq, s_shl_eq, impl_primes_l1_T_eq, impl_primes_l0_T_eq, impl_primes_T_eq, spec_l4Primes_l1_T_eq, spec_l4Primes_l0_T_eq, spec_l4Primes_T_eq, math_Sqrt_T_eq, impl_behindPoint_l0_T_eq, impl_behindPoint_T_eq]; rfl)
def spec_l4Times_l1_T : Nat → (List Int) → Int → Int → (List Int) → Int → (List Int) → Int → Int → Int → (List Int) → Option ((Unit × (Int × Unit)) × ((List Int) × Unit))
  | 0, _, _, _, _, _, _, _, _, _, _ => none
  | N + 1, G2, e, t, t221, t241, t29, t30, t1, t31, p01 =>
     sel (decide (t31 < t30))
      (
      chk ((decide (0 ≤ t31)) && (decide (t31 < (t29.length : Int)))) (
      chk ((decide (0 ≤ (w_i64 (t31 + e)))) && (decide ((w_i64 (t31 + e)) < (p01.length : Int)))) (
      chk ((decide (0 ≤ (w_i64 (t31 + e)))) && (decide ((w_i64 (t31 + e)) < (p01.length : Int)))) (
      spec_l4Times_l1_T N G2 e t t221 t241 t29 t30 (s_shr .u64 (w_u64 ((w_u64 ((w_u64 ((w_u64 (t29.getD (Int.toNat t31) 0)) * t)) + (w_u64 (p01.getD (Int.toNat (w_i64 (t31 + e))) 0)))) + t1)) 32) (w_i64 (t31 + 1)) (p01.set (Int.toNat (w_i64 (t31 + e))) (w_u32 (w_u64 ((w_u64 ((w_u64 ((w_u64 (t29.getD (Int.toNat t31) 0)) * t)) + (w_u64 (p01.getD (Int.toNat (w_i64 (t31 + e))) 0)))) + t1))))))))
      (
      some ((((), (t1, ())), (p01, ()))))
theorem spec_l4Times_l1_T_eq : ∀ (N : Nat) (G2 : (List Int)) (e : Int) (t : Int) (t221 : (List Int)) (t241 : Int) (t29 : (List Int)) (t30 : Int) (t1 : Int) (t31 : Int) (p01 : (List Int)), spec_l4Times.l1 N G2 e t t221 t241 t29 t30 t1 t31 p01 = spec_l4Times_l1_T N G2 e t t221 t241 t29 t30 t1 t31 p01 := by
  intro N
  induction N with
  | zero => intros; kernel_rfl
  | succ N ih =>
    intro G2 e t t221 t241 t29 t30 t1 t31 p01
    rw [spec_l4Times.l1.eq]
    try simp only [ih, w_i64_eq, w_u64_eq, w_u32_eq, w_u8_eq, fB_eq, s_shr_eq, s_shl_eq, impl_primes_l1_T_eq, impl_primes_l0_T_eq, impl_primes_T_eq, spec_l4Primes_l1_T_eq, spec_l4Primes_l0_T_eq, spec_l4Primes_T_eq, math_Sqrt_T_eq, impl_behindPoint_l0_T_eq, impl_behindPoint_T_eq, impl_firstState_T_eq]
    rfl
def spec_l4Times_l0_T : Nat → (List Int) → (List Int) → Int → (List Int) → Option ((Unit × Unit) × ((List Int) × Unit))
  | 0, _, _, _, _ => none
  | N + 1, G1, t22, t24, p0 =>
     sel (decide (t24 < 2))
      (
      chk ((decide (0 ≤ t24)) && (decide (t24 < (t22.length : Int)))) (
      andK (spec_l4Times_l1_T N G1 t24 (t22.getD (Int.toNat t24) 0) t22 t24 G1 (G1.length : Int) 0 0 p0) fun l1 =>
      chk ((decide (0 ≤ (w_i64 ((G1.length : Int) + t24)))) && (decide ((w_i64 ((G1.length : Int) + t24)) < (l1.2.1.length : Int)))) (
      chk ((decide (0 ≤ (w_i64 ((G1.length : Int) + t24)))) && (decide ((w_i64 ((G1.length : Int) + t24)) < (l1.2.1.length : Int)))) (
      spec_l4Times_l0_T N G1 t22 (w_i64 (t24 + 1)) (l1.2.1.set (Int.toNat (w_i64 ((G1.length : Int) + t24))) (w_u32 ((l1.2.1.getD (Int.toNat (w_i64 ((G1.length : Int) + t24))) 0) + (w_u32 l1.1.2.1))))))))
      (
      some ((((), ()), (p0, ()))))
theorem spec_l4Times_l0_T_eq : ∀ (N : Nat) (G1 : (List Int)) (t22 : (List Int)) (t24 : Int) (p0 : (List Int)), spec_l4Times.l0 N G1 t22 t24 p0 = spec_l4Times_l0_T N G1 t22 t24 p0 := by
  intro N
  induction N with
  | zero => intros; kernel_rfl
  | succ N ih =>
    intro G1 t22 t24 p0
    rw [spec_l4Times.l0.eq]
    try simp only [ih, w_i64_eq, w_u64_eq, w_u32_eq, w_u8_eq, fB_eq, s_shr_eq, s_shl_eq, impl_primes_l1_T_eq, impl_primes_l0_T_eq, impl_primes_T_eq, spec_l4Primes_l1_T_eq, spec_l4Primes_l0_T_eq, spec_l4Primes_T_eq, math_Sqrt_T_eq, impl_behindPoint_l0_T_eq, impl_behindPoint_T_eq, impl_firstState_T_eq, spec_l4Times_l1_T_eq]
    rfl
def spec_l4Times_T (N : Nat) (G : (List Int)) (o : Int) : Option ((Unit × Unit) × ((List Int) × Unit)) :=
 chk ((decide (0 ≤ (w_i64 ((G.length : Int) + 2)))) && ((smallI (w_i64 ((G.length : Int) + 2))) && (decide ((w_i64 ((G.length : Int) + 2)) = (w_i64 ((G.length : Int) + 2)))))) (
 andK (spec_l4Times_l0_T N G [(Go.bits .and .u64 (w_u64 o) 4294967295), (s_shr .u64 (w_u64 o) 32)] 0 (List.replicate (Int.toNat (w_i64 ((G.length : Int) + 2))) (0 : Int))) fun l2 =>
 some (((), ()), (l2.2.1, ())))
theorem spec_l4Times_T_eq (N : Nat) (G : (List Int)) (o : Int) : spec_l4Times N G o = spec_l4Times_T N G o := by
  rw [spec_l4Times.eq]
  unfold spec_l4Times_T
  first | rfl | (simp only [w_i64_eq, w_u64_eq, w_u32_eq, w_u8_eq, fB_eq, s_shr_eq, s_shl_eq, impl_primes_l1_T_eq, impl_primes_l0_T_eq, impl_primes_T_eq, spec_l4Primes_l1_T_eq, spec_l4Primes_l0_T_eq, spec_l4Primes_T_eq, math_Sqrt_T_eq, impl_behindPoint_l0_T_eq, impl_behindPoint_T_eq, impl_firstState_T_eq, spec_l4Times_l1_T_eq, spec_l4Times_l0_T_eq]; done) | (simp only [w_i64_eq, w_u64_eq, w_u32_eq, w_u8_eq, fB_eq, s_shr_eq, s_shl_eq, impl_primes_l1_T_eq, impl_primes_l0_T_eq, impl_primes_T_eq, spec_l4Primes_l1_T_eq, spec_l4Primes_l0_T_eq, spec_l4Primes_T_eq, math_Sqrt_T_eq, impl_behindPoint_l0_T_eq, impl_behindPoint_T_eq, impl_firstState_T_eq, spec_l4Times_l1_T_eq, spec_l4Times_l0_T_eq]; rfl)
def spec_l4Fits_l0_T : Nat → Int → Int → Int → Int → (List Int) → Option ((Unit × Unit) × (Unit × ((List Int) × Unit)))
  | 0, _, _, _, _, _ => none
  | N + 1, m1, p1, power1, k, p11 =>
     sel (decide (k < power1))
      (
      andK (spec_l4Times_T N p11 m1) fun u1 =>
      spec_l4Fits_l0_T N m1 p1 power1 (w_i64 (k + 1)) u1.2.1)
      (
      some ((((), ()), ((), (p11, ())))))
theorem spec_l4Fits_l0_T_eq : ∀ (N : Nat) (m1 : Int) (p1 : Int) (power1 : Int) (k : Int) (p11 : (List Int)), spec_l4Fits.l0 N m1 p1 power1 k p11 = spec_l4Fits_l0_T N m1 p1 power1 k p11 := by
  intro N
  induction N with
  | zero => intros; kernel_rfl
  | succ N ih =>
    intro m1 p1 power1 k p11
    rw [spec_l4Fits.l0.eq]
    try simp only [ih, w_i64_eq, w_u64_eq, w_u32_eq, w_u8_eq, fB_eq, s_shr_eq, s_shl_eq, impl_primes_l1_T_eq, impl_primes_l0_T_eq, impl_primes_T_eq, spec_l4Primes_l1_T_eq, spec_l4Primes_l0_T_eq, spec_l4Primes_T_eq, math_Sqrt_T_eq, impl_behindPoint_l0_T_eq, impl_behindPoint_T_eq, impl_firstState_T_eq, spec_l4Times_l1_T_eq, spec_l4Times_l0_T_eq, spec_l4Times_T_eq]
    rfl
def spec_l4Fits_l1_T : Nat → (List Int) → (List Int) → Option ((Unit × (Unit × Unit)) × (Unit × ((List Int) × ((List Int) × Unit))))
  | 0, _, _ => none
  | N + 1, p12, p2 =>
     sel (decide ((p12.length : Int) < (p2.length : Int)))
      (
      chk (decide (p12.length + 1 < most)) (
      spec_l4Fits_l1_T N (p12 ++ [0]) p2))
      (
      some ((((), ((), ())), ((), (p12, (p2, ()))))))
theorem spec_l4Fits_l1_T_eq : ∀ (N : Nat) (p12 : (List Int)) (p2 : (List Int)), spec_l4Fits.l1 N p12 p2 = spec_l4Fits_l1_T N p12 p2 := by
  intro N
  induction N with
  | zero => intros; kernel_rfl
  | succ N ih =>
    intro p12 p2
    rw [spec_l4Fits.l1.eq]
    try simp only [ih, w_i64_eq, w_u64_eq, w_u32_eq, w_u8_eq, fB_eq, s_shr_eq, s_shl_eq, impl_primes_l1_T_eq, impl_primes_l0_T_eq, impl_primes_T_eq, spec_l4Primes_l1_T_eq, spec_l4Primes_l0_T_eq, spec_l4Primes_T_eq, math_Sqrt_T_eq, impl_behindPoint_l0_T_eq, impl_behindPoint_T_eq, impl_firstState_T_eq, spec_l4Times_l1_T_eq, spec_l4Times_l0_T_eq, spec_l4Times_T_eq, spec_l4Fits_l0_T_eq]
    rfl
def spec_l4Fits_l2_T : Nat → Int → (List Int) → (List Int) → Option (((Bool × Unit) × (Unit × ((List Int) × ((List Int) × Unit)))) ⊕ (Unit × (Unit × ((List Int) × ((List Int) × Unit)))))
  | 0, _, _, _ => none
  | N + 1, i, p13, p21 =>
     sel (decide (0 ≤ i))
      (
      andK (α := ((Unit × (Unit × (Int × Unit))) × (Unit × ((List Int) × ((List Int) × Unit))))) (
       sel (decide (i < (p21.length : Int)))
        (
        chk ((decide (0 ≤ i)) && (decide (i < (p21.length : Int)))) (
        some ((((), ((), ((p21.getD (Int.toNat i) 0), ()))), ((), (p13, (p21, ())))))))
        (
        some ((((), ((), (0, ()))), ((), (p13, (p21, ()))))))) fun j4 =>
      chk ((decide (0 ≤ i)) && (decide (i < (j4.2.2.1.length : Int)))) (
      sel (!(decide ((j4.2.2.1.getD (Int.toNat i) 0) = j4.1.2.2.1)))
       (
       chk ((decide (0 ≤ i)) && (decide (i < (j4.2.2.1.length : Int)))) (
       some (.inl (((decide ((j4.2.2.1.getD (Int.toNat i) 0) < j4.1.2.2.1)), ()), ((), (j4.2.2.1, (j4.2.2.2.1, ())))))))
       (
       spec_l4Fits_l2_T N (w_i64 (i - 1)) j4.2.2.1 j4.2.2.2.1)))
      (
      some (.inr (((), ((), (p13, (p21, ())))))))
theorem spec_l4Fits_l2_T_eq : ∀ (N : Nat) (i : Int) (p13 : (List Int)) (p21 : (List Int)), spec_l4Fits.l2 N i p13 p21 = spec_l4Fits_l2_T N i p13 p21 := by
  intro N
  induction N with
  | zero => intros; kernel_rfl
  | succ N ih =>
    intro i p13 p21
    rw [spec_l4Fits.l2.eq]
    try simp only [ih, w_i64_eq, w_u64_eq, w_u32_eq, w_u8_eq, fB_eq, s_shr_eq, s_shl_eq, impl_primes_l1_T_eq, impl_primes_l0_T_eq, impl_primes_T_eq, spec_l4Primes_l1_T_eq, spec_l4Primes_l0_T_eq, spec_l4Primes_T_eq, math_Sqrt_T_eq, impl_behindPoint_l0_T_eq, impl_behindPoint_T_eq, impl_firstState_T_eq, spec_l4Times_l1_T_eq, spec_l4Times_l0_T_eq, spec_l4Times_T_eq, spec_l4Fits_l0_T_eq, spec_l4Fits_l1_T_eq]
    rfl
def spec_l4Fits_T (N : Nat) (m : Int) (p : Int) (power : Int) : Option ((Bool × Unit) × Unit) :=
 andK (spec_l4Fits_l0_T N m p power 0 [1]) fun l2 =>
 chk ((decide (0 ≤ (w_i64 (power + 1)))) && ((smallI (w_i64 (power + 1))) && (decide ((w_i64 (power + 1)) = (w_i64 (power + 1)))))) (
 chk ((decide (0 ≤ power)) && (decide (power < ((List.replicate (Int.toNat (w_i64 (power + 1))) (0 : Int)).length : Int)))) (
 andK (spec_l4Fits_l1_T N l2.2.2.1 ((List.replicate (Int.toNat (w_i64 (power + 1))) (0 : Int)).set (Int.toNat power) (w_u32 p))) fun l3 =>
 andK (spec_l4Fits_l2_T N (w_i64 ((l3.2.2.1.length : Int) - 1)) l3.2.2.1 l3.2.2.2.1) fun l5 =>
 orK l5 (fun x6 =>
  some ((x6.1.1, ()), ()))
  (fun x7 =>
  some ((true, ()), ()))))
theorem spec_l4Fits_T_eq (N : Nat) (m : Int) (p : Int) (power : Int) : spec_l4Fits N m p power = spec_l4Fits_T N m p power := by
  rw [spec_l4Fits.eq]
  unfold spec_l4Fits_T
  first | rfl | (simp only [w_i64_eq, w_u64_eq, w_u32_eq, w_u8_eq, fB_eq, s_shr_eq, s_shl_eq, impl_primes_l1_T_eq, impl_primes_l0_T_eq, impl_primes_T_eq, spec_l4Primes_l1_T_eq, spec_l4Primes_l0_T_eq, spec_l4Primes_T_eq, math_Sqrt_T_eq, impl_behindPoint_l0_T_eq, impl_behindPoint_T_eq, impl_firstState_T_eq, spec_l4Times_l1_T_eq, spec_l4Times_l0_T_eq, spec_l4Times_T_eq, spec_l4Fits_l0_T_eq, spec_l4Fits_l1_T_eq, spec_l4Fits_l2_T_eq]; done) | (simp only [w_i64_eq, w_u64_eq, w_u32_eq, w_u8_eq, fB_eq, s_shr_eq, s_shl_eq, impl_primes_l1_T_eq, impl_primes_l0_T_eq, impl_primes_T_eq, spec_l4Primes_l1_T_eq, spec_l4Primes_l0_T_eq, spec_l4Primes_T_eq, math_Sqrt_T_eq, impl_behindPoint_l0_T_eq, impl_behindPoint_T_eq, impl_firstState_T_eq, spec_l4Times_l1_T_eq, spec_l4Times_l0_T_eq, spec_l4Times_T_eq, spec_l4Fits_l0_T_eq, spec_l4Fits_l1_T_eq, spec_l4Fits_l2_T_eq]; rfl)
def spec_l4Root_l0_T : Nat → Int → Int → Int → Int → Option ((Int × Unit) × Unit)
  | 0, _, _, _, _ => none
  | N + 1, p1, power1, n, bit =>
     sel (decide (0 ≤ bit))
      (
      andK (α := ((Int × Unit) × Unit)) (
       chk (decide (0 ≤ (w_u64 bit))) (
       andK (spec_l4Fits_T N (Go.bits .or .i64 n (s_shl .i64 1 (w_u64 bit))) p1 power1) fun u1 =>
       sel u1.1.1
        (
        some ((((Go.bits .or .i64 n (s_shl .i64 1 (w_u64 bit))), ()), ())))
        (
        some (((n, ()), ()))))) fun j2 =>
      spec_l4Root_l0_T N p1 power1 j2.1.1 (w_i64 (bit - 1)))
      (
      some (((n, ()), ())))
theorem spec_l4Root_l0_T_eq : ∀ (N : Nat) (p1 : Int) (power1 : Int) (n : Int) (bit : Int), spec_l4Root.l0 N p1 power1 n bit = spec_l4Root_l0_T N p1 power1 n bit := by
  intro N
  induction N with
  | zero => intros; kernel_rfl
  | succ N ih =>
    intro p1 power1 n bit
    rw [spec_l4Root.l0.eq]
    try simp only [ih, w_i64_eq, w_u64_eq, w_u32_eq, w_u8_eq, fB_eq, s_shr_eq, s_shl_eq, impl_primes_l1_T_eq, impl_primes_l0_T_eq, impl_primes_T_eq, spec_l4Primes_l1_T_eq, spec_l4Primes_l0_T_eq, spec_l4Primes_T_eq, math_Sqrt_T_eq, impl_behindPoint_l0_T_eq, impl_behindPoint_T_eq, impl_firstState_T_eq, spec_l4Times_l1_T_eq, spec_l4Times_l0_T_eq, spec_l4Times_T_eq, spec_l4Fits_l0_T_eq, spec_l4Fits_l1_T_eq, spec_l4Fits_l2_T_eq, spec_l4Fits_T_eq]
    rfl
def spec_l4Root_T (N : Nat) (p : Int) (power : Int) : Option ((Int × Unit) × Unit) :=
 andK (spec_l4Root_l0_T N p power 0 36) fun l3 =>
 some (((w_u32 l3.1.1), ()), ())
theorem spec_l4Root_T_eq (N : Nat) (p : Int) (power : Int) : spec_l4Root N p power = spec_l4Root_T N p power := by
  rw [spec_l4Root.eq]
  unfold spec_l4Root_T
  first | rfl | (simp only [w_i64_eq, w_u64_eq, w_u32_eq, w_u8_eq, fB_eq, s_shr_eq, s_shl_eq, impl_primes_l1_T_eq, impl_primes_l0_T_eq, impl_primes_T_eq, spec_l4Primes_l1_T_eq, spec_l4Primes_l0_T_eq, spec_l4Primes_T_eq, math_Sqrt_T_eq, impl_behindPoint_l0_T_eq, impl_behindPoint_T_eq, impl_firstState_T_eq, spec_l4Times_l1_T_eq, spec_l4Times_l0_T_eq, spec_l4Times_T_eq, spec_l4Fits_l0_T_eq, spec_l4Fits_l1_T_eq, spec_l4Fits_l2_T_eq, spec_l4Fits_T_eq, spec_l4Root_l0_T_eq]; done) | (simp only [w_i64_eq, w_u64_eq, w_u32_eq, w_u8_eq, fB_eq, s_shr_eq, s_shl_eq, impl_primes_l1_T_eq, impl_primes_l0_T_eq, impl_primes_T_eq, spec_l4Primes_l1_T_eq, spec_l4Primes_l0_T_eq, spec_l4Primes_T_eq, math_Sqrt_T_eq, impl_behindPoint_l0_T_eq, impl_behindPoint_T_eq, impl_firstState_T_eq, spec_l4Times_l1_T_eq, spec_l4Times_l0_T_eq, spec_l4Times_T_eq, spec_l4Fits_l0_T_eq, spec_l4Fits_l1_T_eq, spec_l4Fits_l2_T_eq, spec_l4Fits_T_eq, spec_l4Root_l0_T_eq]; rfl)
def spec_l4Words_l0_T : Nat → Int → Int → Int → (List Int) → (List Int) → Option ((Unit × Unit) × ((List Int) × ((List Int) × Unit)))
  | 0, _, _, _, _, _ => none
  | N + 1, power1, t10, t11, p0, p1 =>
     sel (decide (t11 < t10))
      (
      chk ((decide (0 ≤ t11)) && (decide (t11 < (p0.length : Int)))) (
      andK (spec_l4Root_T N (p0.getD (Int.toNat t11) 0) power1) fun u2 =>
      chk (decide (p1.length + 1 < most)) (
      spec_l4Words_l0_T N power1 t10 (w_i64 (t11 + 1)) p0 (p1 ++ [u2.1.1]))))
      (
      some ((((), ()), (p0, (p1, ())))))
theorem spec_l4Words_l0_T_eq : ∀ (N : Nat) (power1 : Int) (t10 : Int) (t11 : Int) (p0 : (List Int)) (p1 : (List Int)), spec_l4Words.l0 N power1 t10 t11 p0 p1 = spec_l4Words_l0_T N power1 t10 t11 p0 p1 := by
  intro N
  induction N with
  | zero => intros; kernel_rfl
  | succ N ih =>
    intro power1 t10 t11 p0 p1
    rw [spec_l4Words.l0.eq]
    try simp only [ih, w_i64_eq, w_u64_eq, w_u32_eq, w_u8_eq, fB_eq, s_shr_eq, s_shl_eq, impl_primes_l1_T_eq, impl_primes_l0_T_eq, impl_primes_T_eq, spec_l4Primes_l1_T_eq, spec_l4Primes_l0_T_eq, spec_l4Primes_T_eq, math_Sqrt_T_eq, impl_behindPoint_l0_T_eq, impl_behindPoint_T_eq, impl_firstState_T_eq, spec_l4Times_l1_T_eq, spec_l4Times_l0_T_eq, spec_l4Times_T_eq, spec_l4Fits_l0_T_eq, spec_l4Fits_l1_T_eq, spec_l4Fits_l2_T_eq, spec_l4Fits_T_eq, spec_l4Root_l0_T_eq, spec_l4Root_T_eq]
    rfl
def spec_l4Words_T (N : Nat) (n : Int) (power : Int) : Option ((Unit × Unit) × ((List Int) × Unit)) :=
 andK (spec_l4Primes_T N n) fun u1 =>
 andK (spec_l4Words_l0_T N power (u1.2.1.length : Int) 0 u1.2.1 []) fun l3 =>
 some (((), ()), (l3.2.2.1, ()))
theorem spec_l4Words_T_eq (N : Nat) (n : Int) (power : Int) : spec_l4Words N n power = spec_l4Words_T N n power := by
  rw [spec_l4Words.eq]
  unfold spec_l4Words_T
  first | rfl | (simp only [w_i64_eq, w_u64_eq, w_u32_eq, w_u8_eq, fB_eq, s_shr_eq, s_shl_eq, impl_primes_l1_T_eq, impl_primes_l0_T_eq, impl_primes_T_eq, spec_l4Primes_l1_T_eq, spec_l4Primes_l0_T_eq, spec_l4Primes_T_eq, math_Sqrt_T_eq, impl_behindPoint_l0_T_eq, impl_behindPoint_T_eq, impl_firstState_T_eq, spec_l4Times_l1_T_eq, spec_l4Times_l0_T_eq, spec_l4Times_T_eq, spec_l4Fits_l0_T_eq, spec_l4Fits_l1_T_eq, spec_l4Fits_l2_T_eq, spec_l4Fits_T_eq, spec_l4Root_l0_T_eq, spec_l4Root_T_eq, spec_l4Words_l0_T_eq]; done) | (simp only [w_i64_eq, w_u64_eq, w_u32_eq, w_u8_eq, fB_eq, s_shr_eq, s_shl_eq, impl_primes_l1_T_eq, impl_primes_l0_T_eq, impl_primes_T_eq, spec_l4Primes_l1_T_eq, spec_l4Primes_l0_T_eq, spec_l4Primes_T_eq, math_Sqrt_T_eq, impl_behindPoint_l0_T_eq, impl_behindPoint_T_eq, impl_firstState_T_eq, spec_l4Times_l1_T_eq, spec_l4Times_l0_T_eq, spec_l4Times_T_eq, spec_l4Fits_l0_T_eq, spec_l4Fits_l1_T_eq, spec_l4Fits_l2_T_eq, spec_l4Fits_T_eq, spec_l4Root_l0_T_eq, spec_l4Root_T_eq, spec_l4Words_l0_T_eq]; rfl)
def math_IsNaN_T (N : Nat) (f : Nat) : Option ((Bool × Unit) × Unit) :=
 some (((!(fEq f f)), ()), ())
theorem math_IsNaN_T_eq (N : Nat) (f : Nat) : math_IsNaN N f = math_IsNaN_T N f := by
  rw [math_IsNaN.eq]
  unfold math_IsNaN_T
  first | rfl | (simp only [w_i64_eq, w_u64_eq, w_u32_eq, w_u8_eq, fB_eq, s_shr_eq, s_shl_eq, impl_primes_l1_T_eq, impl_primes_l0_T_eq, impl_primes_T_eq, spec_l4Primes_l1_T_eq, spec_l4Primes_l0_T_eq, spec_l4Primes_T_eq, math_Sqrt_T_eq, impl_behindPoint_l0_T_eq, impl_behindPoint_T_eq, impl_firstState_T_eq, spec_l4Times_l1_T_eq, spec_l4Times_l0_T_eq, spec_l4Times_T_eq, spec_l4Fits_l0_T_eq, spec_l4Fits_l1_T_eq, spec_l4Fits_l2_T_eq, spec_l4Fits_T_eq, spec_l4Root_l0_T_eq, spec_l4Root_T_eq, spec_l4Words_l0_T_eq, spec_l4Words_T_eq]; done) | (simp only [w_i64_eq, w_u64_eq, w_u32_eq, w_u8_eq, fB_eq, s_shr_eq, s_shl_eq, impl_primes_l1_T_eq, impl_primes_l0_T_eq, impl_primes_T_eq, spec_l4Primes_l1_T_eq, spec_l4Primes_l0_T_eq, spec_l4Primes_T_eq, math_Sqrt_T_eq, impl_behindPoint_l0_T_eq, impl_behindPoint_T_eq, impl_firstState_T_eq, spec_l4Times_l1_T_eq, spec_l4Times_l0_T_eq, spec_l4Times_T_eq, spec_l4Fits_l0_T_eq, spec_l4Fits_l1_T_eq, spec_l4Fits_l2_T_eq, spec_l4Fits_T_eq, spec_l4Root_l0_T_eq, spec_l4Root_T_eq, spec_l4Words_l0_T_eq, spec_l4Words_T_eq]; rfl)
def math_Abs_T (N : Nat) (x : Nat) : Option ((Nat × Unit) × Unit) :=
 some (((w_fB (Go.bits .andNot .u64 (x : Int) 9223372036854775808)), ()), ())
theorem math_Abs_T_eq (N : Nat) (x : Nat) : math_Abs N x = math_Abs_T N x := by
  rw [math_Abs.eq]
  unfold math_Abs_T
  first | rfl | (simp only [w_i64_eq, w_u64_eq, w_u32_eq, w_u8_eq, fB_eq, s_shr_eq, s_shl_eq, impl_primes_l1_T_eq, impl_primes_l0_T_eq, impl_primes_T_eq, spec_l4Primes_l1_T_eq, spec_l4Primes_l0_T_eq, spec_l4Primes_T_eq, math_Sqrt_T_eq, impl_behindPoint_l0_T_eq, impl_behindPoint_T_eq, impl_firstState_T_eq, spec_l4Times_l1_T_eq, spec_l4Times_l0_T_eq, spec_l4Times_T_eq, spec_l4Fits_l0_T_eq, spec_l4Fits_l1_T_eq, spec_l4Fits_l2_T_eq, spec_l4Fits_T_eq, spec_l4Root_l0_T_eq, spec_l4Root_T_eq, spec_l4Words_l0_T_eq, spec_l4Words_T_eq, math_IsNaN_T_eq]; done) | (simp only [w_i64_eq, w_u64_eq, w_u32_eq, w_u8_eq, fB_eq, s_shr_eq, s_shl_eq, impl_primes_l1_T_eq, impl_primes_l0_T_eq, impl_primes_T_eq, spec_l4Primes_l1_T_eq, spec_l4Primes_l0_T_eq, spec_l4Primes_T_eq, math_Sqrt_T_eq, impl_behindPoint_l0_T_eq, impl_behindPoint_T_eq, impl_firstState_T_eq, spec_l4Times_l1_T_eq, spec_l4Times_l0_T_eq, spec_l4Times_T_eq, spec_l4Fits_l0_T_eq, spec_l4Fits_l1_T_eq, spec_l4Fits_l2_T_eq, spec_l4Fits_T_eq, spec_l4Root_l0_T_eq, spec_l4Root_T_eq, spec_l4Words_l0_T_eq, spec_l4Words_T_eq, math_IsNaN_T_eq]; rfl)
def math_IsInf_T (N : Nat) (f : Nat) (sign : Int) : Option ((Bool × Unit) × Unit) :=
 sel (decide (sign = 0))
  (
  andK (math_Abs_T N f) fun u1 =>
  some (((fGt u1.1.1 9218868437227405311), ()), ()))
  (
  sel (decide (sign < 0))
   (
   some (((fGt (fNeg f) 9218868437227405311), ()), ()))
   (
   some (((fGt f 9218868437227405311), ()), ())))
theorem math_IsInf_T_eq (N : Nat) (f : Nat) (sign : Int) : math_IsInf N f sign = math_IsInf_T N f sign := by
  rw [math_IsInf.eq]
  unfold math_IsInf_T
  first | rfl | (simp only [w_i64_eq, w_u64_eq, w_u32_eq, w_u8_eq, fB_eq, s_shr_eq, s_shl_eq, impl_primes_l1_T_eq, impl_primes_l0_T_eq, impl_primes_T_eq, spec_l4Primes_l1_T_eq, spec_l4Primes_l0_T_eq, spec_l4Primes_T_eq, math_Sqrt_T_eq, impl_behindPoint_l0_T_eq, impl_behindPoint_T_eq, impl_firstState_T_eq, spec_l4Times_l1_T_eq, spec_l4Times_l0_T_eq, spec_l4Times_T_eq, spec_l4Fits_l0_T_eq, spec_l4Fits_l1_T_eq, spec_l4Fits_l2_T_eq, spec_l4Fits_T_eq, spec_l4Root_l0_T_eq, spec_l4Root_T_eq, spec_l4Words_l0_T_eq, spec_l4Words_T_eq, math_IsNaN_T_eq, math_Abs_T_eq]; done) | (simp only [w_i64_eq, w_u64_eq, w_u32_eq, w_u8_eq, fB_eq, s_shr_eq, s_shl_eq, impl_primes_l1_T_eq, impl_primes_l0_T_eq, impl_primes_T_eq, spec_l4Primes_l1_T_eq, spec_l4Primes_l0_T_eq, spec_l4Primes_T_eq, math_Sqrt_T_eq, impl_behindPoint_l0_T_eq, impl_behindPoint_T_eq, impl_firstState_T_eq, spec_l4Times_l1_T_eq, spec_l4Times_l0_T_eq, spec_l4Times_T_eq, spec_l4Fits_l0_T_eq, spec_l4Fits_l1_T_eq, spec_l4Fits_l2_T_eq, spec_l4Fits_T_eq, spec_l4Root_l0_T_eq, spec_l4Root_T_eq, spec_l4Words_l0_T_eq, spec_l4Words_T_eq, math_IsNaN_T_eq, math_Abs_T_eq]; rfl)
def math_cbrt_T (N : Nat) (G : Nat) : Option ((Nat × Unit) × Unit) :=
 andK (α := ((Bool × Unit) × Unit)) (
  sel (fEq G 0)
   (
   some (((true, ()), ())))
   (
   andK (math_IsNaN_T N G) fun u1 =>
   sel u1.1.1
    (
    some (((true, ()), ())))
    (
    andK (math_IsInf_T N G 0) fun u2 =>
    some (((u2.1.1, ()), ()))))) fun j3 =>
 sel j3.1.1
  (
  some ((G, ()), ()))
  (
  andK (α := ((Nat × (Bool × Unit)) × Unit)) (
   sel (fLt G 0)
    (
    some ((((fNeg G), (true, ())), ())))
    (
    some (((G, (false, ())), ())))) fun j4 =>
  andK (α := ((Nat × Unit) × Unit)) (
   sel (fLt j4.1.1 4503599627370496)
    (
    chk (fArOk .mul 4850376798678024192 j4.1.1) (
    some ((((w_fB (w_u64 ((w_u64 (Int.tdiv ((fAr .mul 4850376798678024192 j4.1.1) : Int) 3)) + 2990241250352824320))), ()), ()))))
    (
    some ((((w_fB (w_u64 ((w_u64 (Int.tdiv (j4.1.1 : Int) 3)) + 3071306043645493248))), ()), ())))) fun j5 =>
  chk (fArOk .mul j5.1.1 j5.1.1) (
  chk (fArOk .quo (fAr .mul j5.1.1 j5.1.1) j4.1.1) (
  andK (α := ((Nat × Unit) × Unit)) (
   chk (fArOk .mul (fAr .quo (fAr .mul j5.1.1 j5.1.1) j4.1.1) j5.1.1) (
   chk (fArOk .add 4603064841997850097 (fAr .mul (fAr .quo (fAr .mul j5.1.1 j5.1.1) j4.1.1) j5.1.1)) (
   some ((((fAr .add 4603064841997850097 (fAr .mul (fAr .quo (fAr .mul j5.1.1 j5.1.1) j4.1.1) j5.1.1)), ()), ()))))) fun j6 =>
  andK (α := ((Nat × Unit) × Unit)) (
   chk (fArOk .add j6.1.1 4609048195788499471) (
   chk (fArOk .quo 13827900089180538932 j6.1.1) (
   chk (fArOk .add (fAr .add j6.1.1 4609048195788499471) (fAr .quo 13827900089180538932 j6.1.1)) (
   chk (fArOk .quo 4609916747145206638 (fAr .add (fAr .add j6.1.1 4609048195788499471) (fAr .quo 13827900089180538932 j6.1.1))) (
   chk (fArOk .add 4600105333671292343 (fAr .quo 4609916747145206638 (fAr .add (fAr .add j6.1.1 4609048195788499471) (fAr .quo 13827900089180538932 j6.1.1)))) (
   chk (fArOk .mul j5.1.1 (fAr .add 4600105333671292343 (fAr .quo 4609916747145206638 (fAr .add (fAr .add j6.1.1 4609048195788499471) (fAr .quo 13827900089180538932 j6.1.1))))) (
   some ((((fAr .mul j5.1.1 (fAr .add 4600105333671292343 (fAr .quo 4609916747145206638 (fAr .add (fAr .add j6.1.1 4609048195788499471) (fAr .quo 13827900089180538932 j6.1.1))))), ()), ()))))))))) fun j7 =>
  andK (α := ((Nat × Unit) × Unit)) (
   chk (fArOk .mul (w_fB (w_u64 ((Go.bits .and .u64 (j7.1.1 : Int) 18446744072635809792) + 1073741824))) (w_fB (w_u64 ((Go.bits .and .u64 (j7.1.1 : Int) 18446744072635809792) + 1073741824)))) (
   some ((((fAr .mul (w_fB (w_u64 ((Go.bits .and .u64 (j7.1.1 : Int) 18446744072635809792) + 1073741824))) (w_fB (w_u64 ((Go.bits .and .u64 (j7.1.1 : Int) 18446744072635809792) + 1073741824)))), ()), ())))) fun j8 =>
  andK (α := ((Nat × Unit) × Unit)) (
   chk (fArOk .quo j4.1.1 j8.1.1) (
   some ((((fAr .quo j4.1.1 j8.1.1), ()), ())))) fun j9 =>
  andK (α := ((Nat × Unit) × Unit)) (
   chk (fArOk .add (w_fB (w_u64 ((Go.bits .and .u64 (j7.1.1 : Int) 18446744072635809792) + 1073741824))) (w_fB (w_u64 ((Go.bits .and .u64 (j7.1.1 : Int) 18446744072635809792) + 1073741824)))) (
   some ((((fAr .add (w_fB (w_u64 ((Go.bits .and .u64 (j7.1.1 : Int) 18446744072635809792) + 1073741824))) (w_fB (w_u64 ((Go.bits .and .u64 (j7.1.1 : Int) 18446744072635809792) + 1073741824)))), ()), ())))) fun j10 =>
  andK (α := ((Nat × Unit) × Unit)) (
   chk (fArOk .sub j9.1.1 (w_fB (w_u64 ((Go.bits .and .u64 (j7.1.1 : Int) 18446744072635809792) + 1073741824)))) (
   chk (fArOk .add j10.1.1 j9.1.1) (
   chk (fArOk .quo (fAr .sub j9.1.1 (w_fB (w_u64 ((Go.bits .and .u64 (j7.1.1 : Int) 18446744072635809792) + 1073741824)))) (fAr .add j10.1.1 j9.1.1)) (
   some ((((fAr .quo (fAr .sub j9.1.1 (w_fB (w_u64 ((Go.bits .and .u64 (j7.1.1 : Int) 18446744072635809792) + 1073741824)))) (fAr .add j10.1.1 j9.1.1)), ()), ())))))) fun j11 =>
  andK (α := ((Nat × Unit) × Unit)) (
   chk (fArOk .mul (w_fB (w_u64 ((Go.bits .and .u64 (j7.1.1 : Int) 18446744072635809792) + 1073741824))) j11.1.1) (
   chk (fArOk .add (w_fB (w_u64 ((Go.bits .and .u64 (j7.1.1 : Int) 18446744072635809792) + 1073741824))) (fAr .mul (w_fB (w_u64 ((Go.bits .and .u64 (j7.1.1 : Int) 18446744072635809792) + 1073741824))) j11.1.1)) (
   some ((((fAr .add (w_fB (w_u64 ((Go.bits .and .u64 (j7.1.1 : Int) 18446744072635809792) + 1073741824))) (fAr .mul (w_fB (w_u64 ((Go.bits .and .u64 (j7.1.1 : Int) 18446744072635809792) + 1073741824))) j11.1.1)), ()), ()))))) fun j12 =>
  sel j4.1.2.1
   (
   some (((fNeg j12.1.1), ()), ()))
   (
   some ((j12.1.1, ()), ())))))
theorem math_cbrt_T_eq (N : Nat) (G : Nat) : math_cbrt N G = math_cbrt_T N G := by
  rw [math_cbrt.eq]
  unfold math_cbrt_T
  first | rfl | (simp only [w_i64_eq, w_u64_eq, w_u32_eq, w_u8_eq, fB_eq, s_shr_eq, s_shl_eq, impl_primes_l1_T_eq, impl_primes_l0_T_eq, impl_primes_T_eq, spec_l4Primes_l1_T_eq, spec_l4Primes_l0_T_eq, spec_l4Primes_T_eq, math_Sqrt_T_eq, impl_behindPoint_l0_T_eq, impl_behindPoint_T_eq, impl_firstState_T_eq, spec_l4Times_l1_T_eq, spec_l4Times_l0_T_eq, spec_l4Times_T_eq, spec_l4Fits_l0_T_eq, spec_l4Fits_l1_T_eq, spec_l4Fits_l2_T_eq, spec_l4Fits_T_eq, spec_l4Root_l0_T_eq, spec_l4Root_T_eq, spec_l4Words_l0_T_eq, spec_l4Words_T_eq, math_IsNaN_T_eq, math_Abs_T_eq, math_IsInf_T_eq]; done) | (simp only [w_i64_eq, w_u64_eq, w_u32_eq, w_u8_eq, fB_eq, s_shr_eq, s_shl_eq, impl_primes_l1_T_eq, impl_primes_l0_T_eq, impl_primes_T_eq, spec_l4Primes_l1_T_eq, spec_l4Primes_l0_T_eq, spec_l4Primes_T_eq, math_Sqrt_T_eq, impl_behindPoint_l0_T_eq, impl_behindPoint_T_eq, impl_firstState_T_eq, spec_l4Times_l1_T_eq, spec_l4Times_l0_T_eq, spec_l4Times_T_eq, spec_l4Fits_l0_T_eq, spec_l4Fits_l1_T_eq, spec_l4Fits_l2_T_eq, spec_l4Fits_T_eq, spec_l4Root_l0_T_eq, spec_l4Root_T_eq, spec_l4Words_l0_T_eq, spec_l4Words_T_eq, math_IsNaN_T_eq, math_Abs_T_eq, math_IsInf_T_eq]; rfl)
def math_Cbrt_T (N : Nat) (x : Nat) : Option ((Nat × Unit) × Unit) :=
 andK (math_cbrt_T N x) fun u1 =>
 some ((u1.1.1, ()), ())
theorem math_Cbrt_T_eq (N : Nat) (x : Nat) : math_Cbrt N x = math_Cbrt_T N x := by
  rw [math_Cbrt.eq]
  unfold math_Cbrt_T
  first | rfl | (simp only [w_i64_eq, w_u64_eq, w_u32_eq, w_u8_eq, fB_eq, s_shr_eq, s_shl_eq, impl_primes_l1_T_eq, impl_primes_l0_T_eq, impl_primes_T_eq, spec_l4Primes_l1_T_eq, spec_l4Primes_l0_T_eq, spec_l4Primes_T_eq, math_Sqrt_T_eq, impl_behindPoint_l0_T_eq, impl_behindPoint_T_eq, impl_firstState_T_eq, spec_l4Times_l1_T_eq, spec_l4Times_l0_T_eq, spec_l4Times_T_eq, spec_l4Fits_l0_T_eq, spec_l4Fits_l1_T_eq, spec_l4Fits_l2_T_eq, spec_l4Fits_T_eq, spec_l4Root_l0_T_eq, spec_l4Root_T_eq, spec_l4Words_l0_T_eq, spec_l4Words_T_eq, math_IsNaN_T_eq, math_Abs_T_eq, math_IsInf_T_eq, math_cbrt_T_eq]; done) | (simp only [w_i64_eq, w_u64_eq, w_u32_eq, w_u8_eq, fB_eq, s_shr_eq, s_shl_eq, impl_primes_l1_T_eq, impl_primes_l0_T_eq, impl_primes_T_eq, spec_l4Primes_l1_T_eq, spec_l4Primes_l0_T_eq, spec_l4Primes_T_eq, math_Sqrt_T_eq, impl_behindPoint_l0_T_eq, impl_behindPoint_T_eq, impl_firstState_T_eq, spec_l4Times_l1_T_eq, spec_l4Times_l0_T_eq, spec_l4Times_T_eq, spec_l4Fits_l0_T_eq, spec_l4Fits_l1_T_eq, spec_l4Fits_l2_T_eq, spec_l4Fits_T_eq, spec_l4Root_l0_T_eq, spec_l4Root_T_eq, spec_l4Words_l0_T_eq, spec_l4Words_T_eq, math_IsNaN_T_eq, math_Abs_T_eq, math_IsInf_T_eq, math_cbrt_T_eq]; rfl)
end Go.Proofs.YthkjjombaoffcaaGreatDoor.CFnRendezvous
