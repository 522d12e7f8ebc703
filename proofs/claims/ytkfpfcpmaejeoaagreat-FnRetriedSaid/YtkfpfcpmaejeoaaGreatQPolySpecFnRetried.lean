/- The reference's products of blocks; the hash of a text. -/
import Derived.Test.YtkfpfcpmaejeoaaGreatQGLink
import Derived.Test.YtkfpfcpmaejeoaaGreatQBeSpecFnRetried
set_option linter.unusedVariables false
set_option linter.unusedSimpArgs false
namespace Go.Proofs.YtkfpfcpmaejeoaaGreat.CFnRetried
open Go Go.Proofs Go.Proofs.YtkfpfcpmaejeoaaGreatPM Go.Proofs.YtkfpfcpmaejeoaaGreat.Q Go.Proofs.YtkfpfcpmaejeoaaGreat.G128 Go.Proofs.YtkfpfcpmaejeoaaGreat.GFnRetried

theorem or_u64_low {y b : Int} (h0 : 0 ≤ y) (h1 : y < 18446744073709551616) (hm : y % 256 = 0) (hb : 0 ≤ b ∧ b ≤ 255) : Go.bits .or .u64 y b = y + b := by
  have := or_byte_u64 (a := y / 256) (b := b) (by omega) hb (by omega)
  rw [show y / 256 * 256 = y by omega] at this
  exact this
theorem or_i64_low (y b : Int) (h0 : -9223372036854775808 ≤ y) (h1 : y ≤ 9223372036854775807) (hm : y % 256 = 0) (hb : 0 ≤ b ∧ b ≤ 255) : Go.bits .or .i64 y b = y + b := by
  have hu : Go.bits .or .u64 (y % 18446744073709551616) b = y % 18446744073709551616 + b := or_u64_low (by omega) (by omega) (by omega) hb
  have hu2 : IntKind.u64.wrap (((BitVec.ofInt 64 (y % 18446744073709551616) ||| BitVec.ofInt 64 b).toNat : Nat) : Int) = y % 18446744073709551616 + b := hu
  show IntKind.i64.wrap (((BitVec.ofInt 64 y ||| BitVec.ofInt 64 b).toNat : Nat) : Int) = _
  have e : BitVec.ofInt 64 (y % 18446744073709551616) = BitVec.ofInt 64 y := by
    apply BitVec.eq_of_toNat_eq
    rw [BitVec.toNat_ofInt, BitVec.toNat_ofInt]
    simp
  rw [e] at hu2
  have hlt := (BitVec.ofInt 64 y ||| BitVec.ofInt 64 b).isLt
  clear hu e
  generalize (BitVec.ofInt 64 y ||| BitVec.ofInt 64 b).toNat = z at hu2 hlt ⊢
  simp only [Nat.reducePow] at hlt
  rw [u64i (by omega) (by omega)] at hu2
  rw [IntKind.wrap_i64]
  omega
theorem big64_l0 (s : ByteArray) (hs : s.size ≤ 8) (j : Nat) : ∀ (i : Nat) (acc A : Int), i + j = s.size → -9223372036854775808 ≤ acc → acc ≤ 9223372036854775807 → acc % 18446744073709551616 = A % 18446744073709551616 →
    EvP (fun k => spec_l1Big.l0 k s acc (i : Int)) (fun r => r.1.1 % 18446744073709551616 = valA A ((bytesL s).drop i) % 18446744073709551616) := by
  induction j with
  | zero =>
    intro i acc A hi h0 h1 h2
    refine EvP.step (fun k => spec_l1Big.l0.eq k _ _ _) (EvP.neg (by omega) (EvP.some ?_))
    rw [List.drop_eq_nil_of_le (by rw [bytesL_len]; omega)]; exact h2
  | succ j ih =>
    intro i acc A hi h0 h1 h2
    refine EvP.step (fun k => spec_l1Big.l0.eq k _ _ _) (EvP.pos (by omega) (EvP.chk2 (by omega) (by omega) ?_))
    rw [drop_getD (l := bytesL s) (n := i) (by rw [bytesL_len]; omega), valA, Int.toNat_natCast]
    have hb := Bytes.getD (bytesL_byte s) i
    generalize (bytesL s).getD i 0 = b at hb ⊢
    have e0 : shlI .i64 acc 8 = IntKind.i64.wrap (acc * 256) := rfl
    have hw := i64_range (acc * 256)
    have hw2 : IntKind.i64.wrap (acc * 256) % 256 = 0 := by rw [IntKind.wrap_i64]; omega
    have hw3 : IntKind.i64.wrap (acc * 256) % 18446744073709551616 = acc * 256 % 18446744073709551616 := by rw [IntKind.wrap_i64]; omega
    rw [e0, i64w (n := b) (by omega) (by omega), i64w (n := (i : Int) + 1) (by omega) (by omega), or_i64_low _ b hw.1 hw.2 hw2 hb]
    generalize IntKind.i64.wrap (acc * 256) = y at hw hw2 hw3 ⊢
    exact ih (i + 1) (y + b) (A * 256 + b) (by omega) (by omega) (by omega) (by omega)
theorem big64_ok (s : ByteArray) (hs : s.size ≤ 8) : EvP (fun k => spec_l1Big k s) (fun r => r.1.1 % 18446744073709551616 = vof s % 18446744073709551616) :=
  EvP.of (fun k => spec_l1Big.eq k _) (EvP.andK (big64_l0 s hs s.size 0 0 0 (by omega) (by omega) (by omega) rfl) fun r h => EvP.some h)
theorem pmul_l0 (q z : V) (j : Nat) : ∀ (i : Nat) (p acc : V), i + j = 128 →
    EvP (fun k => spec_l5Mul.l0 k (i : Int) (N q.1) (N q.2) (N p.1) (N p.2) (N z.1) (N z.2) (N acc.1) (N acc.2)) (fun r => r.2.2.2.2.1.1 = N (run q j i p acc).1 ∧ r.2.2.2.2.1.2.1 = N (run q j i p acc).2) := by
  induction j with
  | zero =>
    intro i p acc hi
    exact EvP.step (fun k => spec_l5Mul.l0.eq k _ _ _ _ _ _ _ _ _) (EvP.neg (by omega) (EvP.some ⟨rfl, rfl⟩))
  | succ j ih =>
    intro i p acc hi
    refine EvP.step (fun k => spec_l5Mul.l0.eq k _ _ _ _ _ _ _ _ _) ?_
    rw [i64w (n := 63 - (i : Int)) (by omega) (by omega), i64w (n := 127 - (i : Int)) (by omega) (by omega), u64i (n := 127 - (i : Int)) (by omega) (by omega), i64w (n := (i : Int) + 1) (by omega) (by omega), show (i : Int) + 1 = ((i + 1 : Nat) : Int) by omega]
    have hw : 0 ≤ IntKind.u64.wrap (63 - (i : Int)) := (u64_range _).1
    refine EvP.pos (by omega) ?_
    refine EvP.to (a := (((), ((), ((), ((), ())))), ((N q.1, (N q.2, ())), ((N (X p).1, (N (X p).2, ())), ((N z.1, (N z.2, ())), ((N (if bit q i = true then xo acc p else acc).1, (N (if bit q i = true then xo acc p else acc).2, ())), ())))))) ?_ ?_
    · refine EvP.chk1 hw ?_
      refine EvP.andK (Q := fun r => (Go.bits .and .u64 r.1.2.2.2.2.1 1 = 1 ↔ bit q i = true) ∧ r.2 = ((N q.1, (N q.2, ())), ((N p.1, (N p.2, ())), ((N z.1, (N z.2, ())), ((N acc.1, (N acc.2, ())), ()))))) ?_ ?_
      · by_cases h : i < 64
        · refine EvP.neg (by omega) (EvP.some ⟨?_, rfl⟩)
          dsimp only
          rw [u64i (n := 63 - (i : Int)) (by omega) (by omega), show 63 - (i : Int) = ((63 - i : Nat) : Int) by omega, bit_N _ (by omega), bit, if_pos h]
        · refine EvP.pos (by omega) (EvP.chk1 (by omega) (EvP.some ⟨?_, rfl⟩))
          dsimp only
          rw [show 127 - (i : Int) = ((127 - i : Nat) : Int) by omega, bit_N _ (by omega), bit, if_neg h]
      · rintro ⟨⟨a, b, c, d, x, ⟨⟩⟩, t⟩ ⟨hx, rfl⟩
        dsimp only at hx ⊢
        refine EvP.to (a := (((), ((), ((), ((), ())))), ((N q.1, (N q.2, ())), ((N p.1, (N p.2, ())), ((N z.1, (N z.2, ())), ((N (if bit q i = true then xo acc p else acc).1, (N (if bit q i = true then xo acc p else acc).2, ())), ())))))) ?_ ?_
        · by_cases h : bit q i = true
          · rw [if_pos h]
            exact EvP.pos (hx.2 h) (EvP.some (by unfold xo; rw [xor_N, xor_N]))
          · rw [if_neg h]
            exact EvP.neg (fun h' => h (hx.1 h')) (EvP.some rfl)
        · dsimp only
          simp only [half_N, top_N, or_N, R_N, xor_N]
          unfold X
          by_cases h2 : p.2.getLsbD 0 = true
          · exact EvP.pos ((low_N p.2).2 h2) (EvP.some (by rw [if_pos h2]))
          · exact EvP.neg (fun h' => h2 ((low_N p.2).1 h')) (EvP.some (by rw [if_neg h2, show (p.1 >>> 1) ^^^ (0 : BitVec 64) = p.1 >>> 1 from BitVec.xor_zero]))
    · rw [run]
      exact ih (i + 1) (X p) _ (by omega)
theorem pmul_spec (q p : V) : EvP (fun k => spec_l5Mul k (N q.1) (N q.2) (N p.1) (N p.2)) (· = (((N (T q p).1, (N (T q p).2, ())), ()), ())) := by
  refine EvP.of (fun k => spec_l5Mul.eq k _ _ _ _) (EvP.andK (pmul_l0 q zero 128 0 p zero (by omega)) ?_)
  rintro r ⟨h1, h2⟩
  rw [run_T] at h1 h2
  exact EvP.some (by rw [h1, h2])
theorem wrap_val {r x : Int} (h : r % 18446744073709551616 = x % 18446744073709551616) (h0 : 0 ≤ x ∧ x < 18446744073709551616) : IntKind.u64.wrap r = x := by rw [u64w, h]; omega
theorem of_spec {s : ByteArray} (h : s.size = 16) : EvP (fun k => spec_l5Of k s) (· = (((N (vOf s).1, (N (vOf s).2, ())), ()), ())) := by
  have e1 : (s.extract 0 8).size = 8 := by rw [extract_size (by omega)]
  have e2 : (s.extract 8 16).size = 8 := by rw [extract_size (by omega)]
  refine EvP.of (fun k => spec_l5Of.eq k _) (EvP.chk1 (by omega) (EvP.andK (big64_ok _ (by omega)) fun r hr => EvP.chk2 (by omega) (by omega) ?_))
  rw [h, show Int.toNat ((16 : Nat) : Int) = 16 from rfl]
  refine EvP.andK (big64_ok _ (by omega)) fun u hu => EvP.some ?_
  unfold vOf
  rw [N_ofInt (val8 e1), N_ofInt (val8 e2), wrap_val hr (val8 e1), wrap_val hu (val8 e2)]
theorem be_wrap (x : Int) : be 8 (IntKind.i64.wrap x) = be 8 x := by
  have e : IntKind.i64.wrap x = x + 256 ^ 8 * ((IntKind.i64.wrap x - x) / 18446744073709551616) := by
    simp only [Int.reducePow]
    rw [IntKind.wrap_i64]
    omega
  rw [e, be, BE_mod]
  rfl
theorem told_spec (v : V) : EvP (fun k => spec_l5Told k (N v.1) (N v.2)) (· = ((tOf v, ()), ())) :=
  EvP.of (fun k => spec_l5Told.eq k _ _) (EvP.to (fixed_ok _ 8 (by decide)) (EvP.to (fixed_ok _ 8 (by decide)) (EvP.chk1 (by (try dsimp only); rw [be_size, be_size]; decide) (EvP.some (by dsimp only; rw [be_wrap, be_wrap]; rfl)))))
theorem ghash_s0 (h z : V) (s : ByteArray) (hs : s.size ≤ 1000000) (m : Nat) : ∀ (i : Nat) (acc : V), i + 16 * m = s.size →
    EvP (fun k => spec_l5Ghash.l0 k s (i : Int) (N z.1) (N z.2) (N acc.1) (N acc.2) (N h.1) (N h.2)) (fun r => r.2.2.1.1 = N (Gh h s m i acc).1 ∧ r.2.2.1.2.1 = N (Gh h s m i acc).2) := by
  induction m with
  | zero =>
    intro i acc hi
    exact EvP.step (fun k => spec_l5Ghash.l0.eq k _ _ _ _ _ _ _ _) (EvP.neg (by omega) (EvP.some ⟨rfl, rfl⟩))
  | succ m ih =>
    intro i acc hi
    refine EvP.step (fun k => spec_l5Ghash.l0.eq k _ _ _ _ _ _ _ _) (EvP.pos (by omega) ?_)
    rw [i64w (n := (i : Int) + 16) (by omega) (by omega)]
    refine EvP.chk3 (by omega) (by omega) (by omega) ?_
    rw [show (i : Int) + 16 = ((i + 16 : Nat) : Int) by omega, Int.toNat_natCast, Int.toNat_natCast]
    refine EvP.to (of_spec (by rw [extract_size (by omega)]; omega)) ?_
    dsimp only
    rw [xor_N, xor_N]
    have := pmul_spec (xo acc (vOf (s.extract i (i + 16)))) h
    rw [T_comm] at this
    exact EvP.to this (ih (i + 16) _ (by omega))
theorem ghash_spec {h s : ByteArray} (hh : h.size = 16) (hs : s.size ≤ 1000000) (h16 : s.size % 16 = 0) : EvP (fun k => spec_l5Ghash k h s) (· = (((N (Gh (vOf h) s (s.size / 16) 0 zero).1, (N (Gh (vOf h) s (s.size / 16) 0 zero).2, ())), ()), ())) := by
  refine EvP.of (fun k => spec_l5Ghash.eq k _ _) (EvP.to (of_spec hh) (EvP.andK (ghash_s0 (vOf h) zero s hs (s.size / 16) 0 zero (by omega)) ?_))
  rintro r ⟨h1, h2⟩
  exact EvP.some (by rw [h1, h2])
end Go.Proofs.YtkfpfcpmaejeoaaGreat.CFnRetried
