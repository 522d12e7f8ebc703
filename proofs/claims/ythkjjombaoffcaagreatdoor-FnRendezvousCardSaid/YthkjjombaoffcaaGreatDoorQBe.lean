/- Numbers and their lowest bytes, the highest first. Plain. -/
import Derived.Test.YthkjjombaoffcaaGreatDoorQStr
set_option linter.unusedVariables false
set_option linter.unusedSimpArgs false
namespace Go.Proofs.YthkjjombaoffcaaGreatDoor.Q
open Go Go.Proofs.YthkjjombaoffcaaGreatDoorPM

def BE : Nat → Int → List Int
  | 0, _ => []
  | m + 1, n => BE m (n / 256) ++ [n % 256]
theorem BE_length : ∀ m n, (BE m n).length = m
  | 0, n => rfl
  | m + 1, n => by rw [BE, List.length_append, BE_length m]; rfl
theorem BE_bytes : ∀ m n, Bytes (BE m n)
  | 0, n => Bytes.nil
  | m + 1, n => Bytes.append (BE_bytes m _) (Bytes.cons (by omega) Bytes.nil)
theorem BE_one (n : Int) : BE 1 n = [n % 256] := rfl
theorem BE_front : ∀ (m : Nat) (n : Int), BE (m + 1) n = (n / 256 ^ m % 256) :: BE m n
  | 0, n => by simp [BE]
  | m + 1, n => by
    rw [BE, BE_front m (n / 256)]
    conv => rhs; rw [BE]
    rw [List.cons_append, Int.pow_succ]
    have e : n / 256 / 256 ^ m = n / (256 ^ m * 256) := by
      rw [Int.mul_comm, Int.ediv_ediv_of_nonneg (by decide)]
    rw [e]
theorem set_drop_self (l : List Int) (j : Nat) (v : Int) (h : j < l.length) : (l.set j v).drop j = v :: l.drop (j + 1) := by
  rw [List.drop_eq_getElem_cons (by simpa using h)]
  simp [List.drop_set]
theorem pow_256 (j : Nat) : (2 : Int) ^ (8 * j) = 256 ^ j := by
  rw [Int.pow_mul]; rfl
theorem drop_getD {l : List Int} {n : Nat} (h : n < l.length) : l.drop n = l.getD n 0 :: l.drop (n + 1) := by
  rw [List.getD_eq_getElem?_getD, List.getElem?_eq_getElem h, Option.getD_some]
  exact (List.drop_eq_getElem_cons h)

/-- What bytes tell, the highest first, behind what is told. -/
def valA : Int → List Int → Int
  | n, [] => n
  | n, b :: l => valA (n * 256 + b) l
theorem valA_eq : ∀ (l : List Int) (n : Int), valA n l = n * 256 ^ l.length + valA 0 l
  | [], n => by simp [valA]
  | b :: l, n => by
    rw [valA, valA_eq l (n * 256 + b), valA, valA_eq l (0 * 256 + b), List.length_cons, Int.pow_succ]
    rw [Int.add_mul, Int.add_mul, Int.mul_assoc, Int.mul_comm 256 (256 ^ l.length)]
    omega
theorem valA_range : ∀ (l : List Int), Bytes l → 0 ≤ valA 0 l ∧ valA 0 l < 256 ^ l.length
  | [], _ => by simp [valA]
  | b :: l, h => by
    have hb := h.head
    have ih := valA_range l h.tail
    rw [valA, valA_eq, List.length_cons, Int.pow_succ]
    have e : (0 * 256 + b) = b := by omega
    rw [e]
    have hp : (0 : Int) < 256 ^ l.length := Int.pow_pos (by decide)
    generalize (256 : Int) ^ l.length = p at *
    have h1 : 0 ≤ b * p := Int.mul_nonneg hb.1 (Int.le_of_lt hp)
    have h2 : b * p ≤ 255 * p := Int.mul_le_mul_of_nonneg_right hb.2 (Int.le_of_lt hp)
    constructor
    · omega
    · omega
theorem valA_snoc : ∀ (l : List Int) (n b : Int), valA n (l ++ [b]) = valA n l * 256 + b
  | [], n, b => rfl
  | c :: l, n, b => by rw [List.cons_append, valA, valA_snoc l, valA]
theorem valA_BE : ∀ (m : Nat) (x : Int), valA 0 (BE m x) = x % 256 ^ m
  | 0, x => by simp [BE, valA]
  | m + 1, x => by
    rw [BE, valA_snoc, valA_BE m, Int.pow_succ]
    have hp : (0 : Int) < 256 ^ m := Int.pow_pos (by decide)
    generalize (256 : Int) ^ m = p at hp ⊢
    have h1 : x / 256 = p * (x / 256 / p) + x / 256 % p := (Int.mul_ediv_add_emod _ _).symm
    have h2 := Int.emod_nonneg (x / 256) (show p ≠ 0 by omega)
    have h3 := Int.emod_lt_of_pos (x / 256) hp
    generalize x / 256 / p = a at h1
    generalize x / 256 % p = b at h1 h2 h3 ⊢
    have h4 : x = (b * 256 + x % 256) + (p * 256) * a := by
      have e : p * 256 * a = 256 * (p * a) := by rw [Int.mul_comm p 256, Int.mul_assoc]
      rw [e]; omega
    have h5 : x % (p * 256) = (b * 256 + x % 256) % (p * 256) := by
      conv => lhs; rw [h4]
      rw [Int.add_mul_emod_self_left]
    rw [h5]
    exact (Int.emod_eq_of_lt (by omega) (by omega)).symm
theorem BE_mod : ∀ (m : Nat) (x z : Int), BE m (x + 256 ^ m * z) = BE m x
  | 0, _, _ => rfl
  | m + 1, x, z => by
    rw [BE, BE, Int.pow_succ]
    have e : x + 256 ^ m * 256 * z = x + 256 * (256 ^ m * z) := by rw [Int.mul_comm (256 ^ m) 256, Int.mul_assoc]
    rw [e, Int.add_mul_ediv_left _ _ (by decide), Int.add_mul_emod_self_left, BE_mod m]
theorem BE_emod (m : Nat) (x : Int) : BE m (x % 256 ^ m) = BE m x := by
  conv => rhs; rw [← Int.emod_add_mul_ediv x (256 ^ m)]
  rw [BE_mod]
/-- Bytes come back from what they tell. -/
theorem BE_valA : ∀ {l : List Int}, Bytes l → BE l.length (valA 0 l) = l := by
  intro l
  rw [← List.reverse_reverse l]
  generalize l.reverse = m
  induction m with
  | nil => intro _; rfl
  | cons b m ih =>
    intro h
    rw [List.reverse_cons] at h ⊢
    have hb := h b (by simp)
    have hm : Bytes m.reverse := fun x hx => h x (List.mem_append_left _ hx)
    rw [List.length_append, valA_snoc]
    show BE (m.reverse.length + 1) _ = _
    rw [BE, show (valA 0 m.reverse * 256 + b) / 256 = valA 0 m.reverse by omega, show (valA 0 m.reverse * 256 + b) % 256 = b by omega, ih hm]
/-- A number in some bytes, as a text. -/
def be (m : Nat) (n : Int) : ByteArray := strL (BE m n)
theorem be_size (m : Nat) (n : Int) : (be m n).size = m := by rw [be, strL_size, BE_length]
theorem bytesL_be (m : Nat) (n : Int) : bytesL (be m n) = BE m n := bytesL_strL (BE_bytes m n)
/-- The number that a text tells. -/
def vof (s : ByteArray) : Int := valA 0 (bytesL s)
theorem vof_be (m : Nat) (n : Int) : vof (be m n) = n % 256 ^ m := by rw [vof, bytesL_be, valA_BE]
theorem vof_range (s : ByteArray) : 0 ≤ vof s ∧ vof s < 256 ^ s.size := by
  have := valA_range _ (bytesL_byte s)
  rw [bytesL_len] at this
  exact this
theorem be_vof (s : ByteArray) : be s.size (vof s) = s := by
  have := BE_valA (bytesL_byte s)
  rw [bytesL_len] at this
  rw [be, vof, this, strL_bytesL]
theorem vof_inj {s t : ByteArray} (h : s.size = t.size) (e : vof s = vof t) : s = t := by rw [← be_vof s, ← be_vof t, h, e]

/-! ### bits of numbers -/
theorem bits_or_disj (k : IntKind) (j : Nat) (hj : j ≤ k.bits) (hk : ∀ n : Int, 0 ≤ n → n < 2 ^ j → k.wrap n = n) (i : Nat) (a b : Int) (ha : 0 ≤ a) (ha2 : a * 2 ^ i < 2 ^ j) (hb : 0 ≤ b) (hb2 : b < 2 ^ i) (hs : a * 2 ^ i + b < 2 ^ j) :
    Go.bits .or k (a * 2 ^ i) b = a * 2 ^ i + b := by
  obtain ⟨x, rfl⟩ := Int.eq_ofNat_of_zero_le ha
  obtain ⟨y, rfl⟩ := Int.eq_ofNat_of_zero_le hb
  have hp : 2 ^ j ≤ 2 ^ k.bits := Nat.pow_le_pow_right (by decide) hj
  have h1 : x * 2 ^ i < 2 ^ j := by exact_mod_cast ha2
  have h2 : y < 2 ^ i := by exact_mod_cast hb2
  have h3 : x * 2 ^ i + y < 2 ^ j := by exact_mod_cast hs
  have e1 : x * 2 ^ i % 2 ^ k.bits = x * 2 ^ i := Nat.mod_eq_of_lt (Nat.lt_of_lt_of_le h1 hp)
  have e2 : y % 2 ^ k.bits = y := Nat.mod_eq_of_lt (by omega)
  have ec : ((x : Int) * 2 ^ i) = ((x * 2 ^ i : Nat) : Int) := by push_cast; rfl
  rw [ec]
  simp only [Go.bits, BitVec.ofInt_natCast, BitVec.toNat_or, BitVec.toNat_ofNat, e1, e2]
  have e3 : x * 2 ^ i ||| y = x * 2 ^ i + y := by
    rw [Nat.mul_comm, Nat.two_pow_add_eq_or_of_lt h2]
  rw [e3]
  have := hk ((x * 2 ^ i + y : Nat) : Int) (Int.natCast_nonneg _) (by exact_mod_cast h3)
  rw [this]
  push_cast
  rfl
theorem or_byte_u64 {a b : Int} (ha : 0 ≤ a) (hb : 0 ≤ b ∧ b ≤ 255) (h : a * 256 + b < 18446744073709551616) : Go.bits .or .u64 (a * 256) b = a * 256 + b := by
  have := bits_or_disj .u64 64 (by decide) wraps_u64 8 a b ha (by simp only [Int.reducePow]; omega) hb.1 (by simp only [Int.reducePow]; omega) (by simp only [Int.reducePow]; omega)
  simpa only [Int.reducePow] using this
theorem or_byte_i64 {a b : Int} (ha : 0 ≤ a) (hb : 0 ≤ b ∧ b ≤ 255) (h : a * 256 + b < 9223372036854775808) : Go.bits .or .i64 (a * 256) b = a * 256 + b := by
  have := bits_or_disj .i64 63 (by decide) wraps_i64 8 a b ha (by simp only [Int.reducePow]; omega) hb.1 (by simp only [Int.reducePow]; omega) (by simp only [Int.reducePow]; omega)
  simpa only [Int.reducePow] using this
theorem shrI_pow {k : IntKind} {a : Int} {j : Nat} (h : j ≤ k.bits) : shrI k a (j : Int) = a / 2 ^ j := by
  unfold shrI
  rw [Int.toNat_natCast, Nat.min_eq_left h, Int.fdiv_eq_ediv_of_nonneg _ (Int.le_of_lt (Int.pow_pos (by decide)))]
end Go.Proofs.YthkjjombaoffcaaGreatDoor.Q
