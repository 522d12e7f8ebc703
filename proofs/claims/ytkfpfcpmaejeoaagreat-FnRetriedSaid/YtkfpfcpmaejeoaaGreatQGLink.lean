/- The field of 128 bits, as the programs tell it: two words of 64 bits; blocks of sixteen bytes. -/
import Derived.Test.YtkfpfcpmaejeoaaGreatQG128
import Derived.Test.YtkfpfcpmaejeoaaGreatQBe
import Derived.Test.YtkfpfcpmaejeoaaGreatQAes
set_option linter.unusedVariables false
set_option linter.unusedSimpArgs false
namespace Go.Proofs.YtkfpfcpmaejeoaaGreat.G128
open Go Go.Proofs Go.Proofs.YtkfpfcpmaejeoaaGreatPM Go.Proofs.YtkfpfcpmaejeoaaGreat.Q

/-- A word as a number. -/
def N (a : BitVec 64) : Int := ((a.toNat : Nat) : Int)
theorem N_range (a : BitVec 64) : 0 ≤ N a ∧ N a < 18446744073709551616 := by
  have := a.isLt
  unfold N
  simp only [Nat.reducePow] at this
  omega
theorem ofInt_N (a : BitVec 64) : BitVec.ofInt 64 (N a) = a := by unfold N; rw [BitVec.ofInt_natCast, BitVec.ofNat_toNat, BitVec.setWidth_eq]
theorem wrap_N (a : BitVec 64) : IntKind.u64.wrap (N a) = N a := u64i (N_range a).1 (N_range a).2
theorem xor_N (a b : BitVec 64) : Go.bits .xor .u64 (N a) (N b) = N (a ^^^ b) := by
  show IntKind.u64.wrap (((BitVec.ofInt 64 (N a) ^^^ BitVec.ofInt 64 (N b)).toNat : Nat) : Int) = _
  rw [ofInt_N, ofInt_N]
  exact wrap_N _
theorem or_N (a b : BitVec 64) : Go.bits .or .u64 (N a) (N b) = N (a ||| b) := by
  show IntKind.u64.wrap (((BitVec.ofInt 64 (N a) ||| BitVec.ofInt 64 (N b)).toNat : Nat) : Int) = _
  rw [ofInt_N, ofInt_N]
  exact wrap_N _
theorem and_N (a b : BitVec 64) : Go.bits .and .u64 (N a) (N b) = N (a &&& b) := by
  show IntKind.u64.wrap (((BitVec.ofInt 64 (N a) &&& BitVec.ofInt 64 (N b)).toNat : Nat) : Int) = _
  rw [ofInt_N, ofInt_N]
  exact wrap_N _
theorem shr_N (a : BitVec 64) {i : Nat} (hi : i ≤ 64) : shrI .u64 (N a) (i : Int) = N (a >>> i) := by
  rw [shrI_pow (by simpa [IntKind.bits] using hi)]
  unfold N
  rw [BitVec.toNat_ushiftRight, Nat.shiftRight_eq_div_pow]
  simp
theorem half_N (a : BitVec 64) : shrI .u64 (N a) 1 = N (a >>> 1) := shr_N a (i := 1) (by decide)
theorem top_N (a : BitVec 64) : shlI .u64 (N a) 63 = N (a <<< 63) := by
  show IntKind.u64.wrap (N a * 2 ^ 63) = _
  rw [u64w]
  unfold N
  rw [BitVec.toNat_shiftLeft, Nat.shiftLeft_eq]
  simp
theorem low_N (a : BitVec 64) : Go.bits .and .u64 (N a) 1 = 1 ↔ a.getLsbD 0 = true := by
  rw [show (1 : Int) = N 1#64 from rfl, and_N]
  unfold N BitVec.getLsbD
  rw [BitVec.toNat_and, Nat.testBit_zero, decide_eq_true_eq]
  have : (a.toNat &&& (1#64 : BitVec 64).toNat) = a.toNat % 2 := Nat.and_one_is_mod _
  rw [this]
  show ((a.toNat % 2 : Nat) : Int) = 1 ↔ _
  omega
theorem bit_N (a : BitVec 64) {i : Nat} (hi : i < 64) : Go.bits .and .u64 (shrI .u64 (N a) (i : Int)) 1 = 1 ↔ a.getLsbD i = true := by
  rw [shr_N a (Nat.le_of_lt hi), low_N, BitVec.getLsbD_ushiftRight, Nat.add_zero]
theorem R_N : (16212958658533785600 : Int) = N R := by decide
/-- The product, summed bit by bit from bit i on, as both packages do. -/
def run (q : V) : Nat → Nat → V → V → V
  | 0, _, _, acc => acc
  | j + 1, i, p, acc => run q j (i + 1) (X p) (if bit q i then xo acc p else acc)
theorem run_eq (q p : V) : ∀ (j i : Nat), run q j i (Xn i p) (S i (fun i => if bit q i then Xn i p else zero)) = S (i + j) (fun i => if bit q i then Xn i p else zero)
  | 0, i => rfl
  | j + 1, i => by
    have h := run_eq q p j (i + 1)
    rw [run, show i + (j + 1) = i + 1 + j by omega, ← h]
    congr 1
    rw [S]
    cases bit q i
    · simp [xo_zero]
    · simp
theorem run_T (q p : V) : run q 128 0 p zero = T q p := by
  have := run_eq q p 128 0
  rw [Nat.zero_add] at this
  exact this
theorem xo_self (a : V) : xo a a = zero := by unfold xo zero; simp
theorem xo_cancel {a b : V} (h : xo a b = zero) : a = b := by
  have : xo (xo a b) b = xo zero b := by rw [h]
  rw [xo_assoc, xo_self, xo_zero, zero_xo] at this
  exact this

/-! ### blocks -/
def vOf (s : ByteArray) : V := (BitVec.ofInt 64 (vof (s.extract 0 8)), BitVec.ofInt 64 (vof (s.extract 8 16)))
def tOf (v : V) : ByteArray := be 8 (N v.1) ++ be 8 (N v.2)
theorem tOf_size (v : V) : (tOf v).size = 16 := by unfold tOf; rw [ByteArray.size_append, be_size, be_size]
theorem N_ofInt {x : Int} (h : 0 ≤ x ∧ x < 18446744073709551616) : N (BitVec.ofInt 64 x) = x := by
  obtain ⟨n, rfl⟩ := Int.eq_ofNat_of_zero_le h.1
  unfold N
  rw [BitVec.ofInt_natCast, BitVec.toNat_ofNat, Nat.mod_eq_of_lt (by have := h.2; simp only [Nat.reducePow]; omega)]
theorem val8 {s : ByteArray} (hn : s.size = 8) : 0 ≤ vof s ∧ vof s < 18446744073709551616 := by
  have := vof_range s
  rw [hn] at this
  simpa using this
theorem vOf_tOf (v : V) : vOf (tOf v) = v := by
  have h1 := N_range v.1
  have h2 := N_range v.2
  unfold vOf tOf
  rw [extract_app_one (be_size _ _).symm, extract_app_two (be_size _ _).symm (by rw [be_size, be_size]), vof_be, vof_be]
  refine Prod.ext ?_ ?_
  · show BitVec.ofInt 64 (N v.1 % 256 ^ 8) = v.1
    rw [Int.emod_eq_of_lt h1.1 (by simp only [Int.reducePow]; omega), ofInt_N]
  · show BitVec.ofInt 64 (N v.2 % 256 ^ 8) = v.2
    rw [Int.emod_eq_of_lt h2.1 (by simp only [Int.reducePow]; omega), ofInt_N]
theorem halves {s : ByteArray} (h : s.size = 16) : s.extract 0 8 ++ s.extract 8 16 = s := bytesL_inj (by
  have hl : (bytesL s).length = 16 := by rw [bytesL_len]; exact h
  rw [bytesL_append, bytesL_extract, bytesL_extract, List.drop_zero, List.take_of_length_le (l := bytesL s) (i := 16) (by omega), List.take_append_drop])
theorem tOf_vOf {s : ByteArray} (h : s.size = 16) : tOf (vOf s) = s := by
  have e1 : (s.extract 0 8).size = 8 := by rw [extract_size (by omega)]
  have e2 : (s.extract 8 16).size = 8 := by rw [extract_size (by omega)]
  unfold vOf tOf
  rw [N_ofInt (val8 e1), N_ofInt (val8 e2)]
  have a1 := be_vof (s.extract 0 8)
  have a2 := be_vof (s.extract 8 16)
  rw [e1] at a1
  rw [e2] at a2
  rw [a1, a2, halves h]
/-- A text's hash: m blocks from i on, behind acc. -/
def Gh (h : V) (s : ByteArray) : Nat → Nat → V → V
  | 0, _, acc => acc
  | m + 1, i, acc => Gh h s m (i + 16) (T h (xo acc (vOf (s.extract i (i + 16)))))
end Go.Proofs.YtkfpfcpmaejeoaaGreat.G128
