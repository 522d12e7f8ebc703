/- The field of 128 bits, as the programs tell it: two words of 64 bits; blocks of sixteen bytes. -/
import Derived.Test.YtcngjidojibleaaGf128
import Derived.Test.YtcngjidojibleaaVarBe
set_option linter.unusedVariables false
set_option linter.unusedSimpArgs false
namespace Go.Proofs.Ytcngjidojibleaa.G128
open Go.RowKit Go.Proofs.Ytcngjidojibleaa.B Go.Proofs.YtcngjidojibleaaW.PrintWords Go.Proofs.YtcngjidojibleaaW.PrintLast Go.Proofs.YtcngjidojibleaaW.PrintMore

/-- A word as a number. -/
def N (a : BitVec 64) : Int := ((a.toNat : Nat) : Int)
theorem N_range (a : BitVec 64) : 0 ≤ N a ∧ N a < 18446744073709551616 := by
  have := a.isLt
  unfold N
  simp only [Nat.reducePow] at this
  omega
theorem ofInt_N (a : BitVec 64) : BitVec.ofInt 64 (N a) = a := by unfold N; rw [BitVec.ofInt_natCast, BitVec.ofNat_toNat, BitVec.setWidth_eq]
theorem wrap_N (a : BitVec 64) : IntKind.u64.wrap (N a) = N a := u64w_id (N_range a).1 (N_range a).2
theorem xor_N (a b : BitVec 64) : Go.bits .xor .u64 (N a) (N b) = N (a ^^^ b) := by
  show IntKind.u64.wrap (((BitVec.ofInt 64 (N a) ^^^ BitVec.ofInt 64 (N b)).toNat : Nat) : Int) = _
  rw [ofInt_N, ofInt_N]
  exact wrap_N _
theorem or_N (a b : BitVec 64) : Go.bits .or .u64 (N a) (N b) = N (a ||| b) := by
  show IntKind.u64.wrap (((BitVec.ofInt 64 (N a) ||| BitVec.ofInt 64 (N b)).toNat : Nat) : Int) = _
  rw [ofInt_N, ofInt_N]
  exact wrap_N _
theorem half_N (a : BitVec 64) : N a / (2 : Int) = N (a >>> 1) := by
  unfold N
  rw [BitVec.toNat_ushiftRight, Nat.shiftRight_eq_div_pow]
  simp
theorem top_N (a : BitVec 64) : IntKind.u64.wrap (N a * 9223372036854775808) = N (a <<< 63) := by
  rw [u64w]
  unfold N
  rw [BitVec.toNat_shiftLeft, Nat.shiftLeft_eq]
  simp
theorem odd_N (a : BitVec 64) (i : Nat) : (N a / 2 ^ i) % 2 = 1 ↔ a.getLsbD i = true := by
  unfold N BitVec.getLsbD
  rw [Nat.testBit_eq_decide_div_mod_eq, decide_eq_true_eq]
  have e : ((a.toNat : Int) / 2 ^ i) % 2 = (((a.toNat / 2 ^ i) % 2 : Nat) : Int) := by simp
  rw [e]
  omega
theorem and1 (x : Int) (h : 0 ≤ x ∧ x < 18446744073709551616) : Go.bits .and .u64 x 1 = x % 2 :=
  bits_mask .u64 64 (by decide) wraps_u64 1 (by decide) x h.1 (by simpa using h.2)
theorem low_N (a : BitVec 64) : Go.bits .and .u64 (N a) 1 = 1 ↔ a.getLsbD 0 = true := by
  rw [and1 _ (N_range a), ← odd_N a 0]
  simp
theorem shr_N (a : BitVec 64) (i : Nat) (hi : i < 64) : Go.bits .and .u64 (shr .u64 (N a) (i : Int)) 1 = 1 ↔ a.getLsbD i = true := by
  have hr := N_range a
  have e : shr .u64 (N a) (i : Int) = N a / 2 ^ i := by
    unfold shr
    rw [Nat.min_eq_left (by simp [IntKind.bits]; omega), Int.toNat_natCast]
  have hp : (1 : Int) ≤ 2 ^ i := Int.pow_pos (by decide)
  have h0 : 0 ≤ N a / 2 ^ i := Int.ediv_nonneg hr.1 (by omega)
  have h1 : N a / 2 ^ i ≤ N a := Int.ediv_le_self _ hr.1
  rw [e, and1 _ ⟨h0, by omega⟩]
  exact odd_N a i
theorem R_N : (16212958658533785600 : Int) = N R := by decide
/-- The product, summed bit by bit from bit i on, as both packages do. -/
def run (q : V) : Nat → Nat → V → V → V
  | 0, _, _, acc => acc
  | j + 1, i, p, acc => run q j (i + 1) (X p) (if bit q i then xo acc p else acc)
theorem run_eq (q p : V) : ∀ (j i : Nat), run q j i (Xn i p) (S i (fun i => if bit q i then Xn i p else zero)) = S (i + j) (fun i => if bit q i then Xn i p else zero)
  | 0, i => rfl
  | j + 1, i => by
    have h := run_eq q p j (i + 1)
    rw [run, show i + (j + 1) = i + 1 + j by omega, ← h]
    congr 1
    rw [S]
    cases bit q i
    · simp [xo_zero]
    · simp
theorem run_T (q p : V) : run q 128 0 p zero = T q p := by
  have := run_eq q p 128 0
  rw [Nat.zero_add] at this
  exact this

/-! ### blocks -/
def vOf (s : ByteArray) : V := (BitVec.ofInt 64 (valA 0 ((B s).take 8)), BitVec.ofInt 64 (valA 0 ((B s).drop 8)))
def tOf (v : V) : ByteArray := strOfNums (BE 8 (N v.1)) ++ strOfNums (BE 8 (N v.2))
theorem tOf_size (v : V) : (tOf v).size = 16 := by unfold tOf; rw [ByteArray.size_append, strOfNums_size, strOfNums_size, BE_length, BE_length]
theorem B_tOf (v : V) : B (tOf v) = BE 8 (N v.1) ++ BE 8 (N v.2) := by unfold tOf; rw [B_append, B_strOfNums (BE_bytes _ _), B_strOfNums (BE_bytes _ _)]
theorem N_ofInt {x : Int} (h : 0 ≤ x ∧ x < 18446744073709551616) : N (BitVec.ofInt 64 x) = x := by
  obtain ⟨n, rfl⟩ := Int.eq_ofNat_of_zero_le h.1
  unfold N
  rw [BitVec.ofInt_natCast, BitVec.toNat_ofNat, Nat.mod_eq_of_lt (by have := h.2; simp only [Nat.reducePow]; omega)]
theorem val8 (l : List Int) (hl : Bytes l) (hn : l.length = 8) : 0 ≤ valA 0 l ∧ valA 0 l < 18446744073709551616 := by
  have := valA_range l hl
  rw [hn] at this
  simpa using this
theorem vOf_tOf (v : V) : vOf (tOf v) = v := by
  unfold vOf
  have e1 : (BE 8 (N v.1) ++ BE 8 (N v.2)).take 8 = BE 8 (N v.1) := by rw [List.take_append_of_le_length (by rw [BE_length]; exact Nat.le_refl _), List.take_of_length_le (by rw [BE_length]; exact Nat.le_refl _)]
  have e2 : (BE 8 (N v.1) ++ BE 8 (N v.2)).drop 8 = BE 8 (N v.2) := by rw [List.drop_append_of_le_length (by rw [BE_length]; exact Nat.le_refl _), List.drop_eq_nil_of_le (by rw [BE_length]; exact Nat.le_refl _)]; rfl
  have h1 := N_range v.1
  have h2 := N_range v.2
  rw [B_tOf, e1, e2, valA_BE, valA_BE]
  refine Prod.ext ?_ ?_
  · show BitVec.ofInt 64 (N v.1 % 256 ^ 8) = v.1
    rw [Int.emod_eq_of_lt h1.1 (by simp only [Int.reducePow]; omega), ofInt_N]
  · show BitVec.ofInt 64 (N v.2 % 256 ^ 8) = v.2
    rw [Int.emod_eq_of_lt h2.1 (by simp only [Int.reducePow]; omega), ofInt_N]
theorem BE_valA : ∀ (m : Nat) (l : List Int), l.length = m → Bytes l → BE m (valA 0 l) = l
  | 0, l, h, _ => by rw [List.eq_nil_of_length_eq_zero h]; rfl
  | m + 1, l, h, hb => by
    have hne : l ≠ [] := fun e => by rw [e] at h; simp at h
    have e := List.dropLast_concat_getLast hne
    have h1 : l.dropLast.length = m := by rw [List.length_dropLast]; omega
    have hb1 : Bytes l.dropLast := fun x hx => hb x (by rw [← e]; exact List.mem_append_left _ hx)
    have hb2 := hb _ (List.getLast_mem hne)
    generalize l.getLast hne = b at e hb2
    rw [← e, valA_snoc, BE]
    rw [show (valA 0 l.dropLast * 256 + b) / 256 = valA 0 l.dropLast by omega, show (valA 0 l.dropLast * 256 + b) % 256 = b by omega, BE_valA m _ h1 hb1]
theorem tOf_vOf {s : ByteArray} (h : s.size = 16) : tOf (vOf s) = s := by
  apply B_inj
  rw [B_tOf]
  have hb := B_bytes s
  have hl := B_length s
  have h1 := val8 ((B s).take 8) (hb.take 8) (by rw [List.length_take]; omega)
  have h2 := val8 ((B s).drop 8) (hb.drop 8) (by rw [List.length_drop]; omega)
  unfold vOf
  rw [N_ofInt h1, N_ofInt h2, BE_valA 8 _ (by rw [List.length_take]; omega) (hb.take 8), BE_valA 8 _ (by rw [List.length_drop]; omega) (hb.drop 8), List.take_append_drop]
theorem u8_xor (a b : Nat) (ha : a < 256) (hb : b < 256) : Go.bits .xor .u8 (a : Int) (b : Int) = ((a ^^^ b : Nat) : Int) :=
  bits_xor_nat .u8 8 (by decide) (fun n h0 h1 => by rw [IntKind.wrap_u8]; exact Int.emod_eq_of_lt h0 (by simpa using h1)) a b (by simpa using ha) (by simpa using hb)
theorem BE_xor : ∀ (m a b : Nat), BE m (((a ^^^ b : Nat) : Int)) = List.zipWith (fun x y => Go.bits .xor .u8 x y) (BE m a) (BE m b)
  | 0, _, _ => rfl
  | m + 1, a, b => by
    have e1 : (((a ^^^ b : Nat) : Int)) / 256 = ((a / 256 ^^^ b / 256 : Nat) : Int) := by
      have := Nat.xor_div_two_pow (a := a) (b := b) (n := 8)
      simp only [Nat.reducePow] at this
      rw [← this]; simp
    have e2 : (((a ^^^ b : Nat) : Int)) % 256 = ((a % 256 ^^^ b % 256 : Nat) : Int) := by
      have := Nat.xor_mod_two_pow (a := a) (b := b) (n := 8)
      simp only [Nat.reducePow] at this
      rw [← this]; simp
    have e3 : (a : Int) / 256 = ((a / 256 : Nat) : Int) := by simp
    have e4 : (b : Int) / 256 = ((b / 256 : Nat) : Int) := by simp
    have e5 : (a : Int) % 256 = ((a % 256 : Nat) : Int) := by simp
    have e6 : (b : Int) % 256 = ((b % 256 : Nat) : Int) := by simp
    rw [BE, BE, BE, e1, e2, BE_xor m, e3, e4, e5, e6, List.zipWith_append (by rw [BE_length, BE_length])]
    congr 1
    show _ = [Go.bits .xor .u8 _ _]
    rw [u8_xor _ _ (by omega) (by omega)]
theorem BE_xorN (m : Nat) (a b : BitVec 64) : BE m (N (a ^^^ b)) = List.zipWith (fun x y => Go.bits .xor .u8 x y) (BE m (N a)) (BE m (N b)) := by
  have := BE_xor m a.toNat b.toNat
  rw [← BitVec.toNat_xor] at this
  exact this
theorem tOf_xo (v w : V) : tOf (xo v w) = strOfNums (List.zipWith (fun x y => Go.bits .xor .u8 x y) (B (tOf v)) (B (tOf w))) := by
  have e : B (tOf (xo v w)) = List.zipWith (fun x y => Go.bits .xor .u8 x y) (B (tOf v)) (B (tOf w)) := by
    rw [B_tOf, B_tOf, B_tOf, List.zipWith_append (by rw [BE_length, BE_length])]
    unfold xo
    rw [BE_xorN, BE_xorN]
  rw [← e, strOfNums_B]
end Go.Proofs.Ytcngjidojibleaa.G128
