/- The reference's products of blocks. -/
import Derived.Test.YtcngjidojibleaaGfLink
import Derived.Test.YtcngjidojibleaaBeSpecFnGhash
set_option linter.unusedVariables false
set_option linter.unusedSimpArgs false
namespace Go.Proofs.Ytcngjidojibleaa.CFnGhash
open Go.RowKit Go.Proofs.Ytcngjidojibleaa.B Go.Proofs.Ytcngjidojibleaa.G128 Go.Proofs.Ytcngjidojibleaa.PFnGhash Go.Proofs.YtcngjidojibleaaW.PrintWords Go.Proofs.YtcngjidojibleaaW.PrintLast Go.Proofs.YtcngjidojibleaaW.PrintMore

theorem or_i64_low (y b : Int) (h0 : -9223372036854775808 ≤ y) (h1 : y ≤ 9223372036854775807) (hm : y % 256 = 0) (hb : 0 ≤ b ∧ b ≤ 255) : Go.bits .or .i64 y b = y + b := by
  have hu : Go.bits .or .u64 (y % 18446744073709551616) b = y % 18446744073709551616 + b :=
    bits_join .u64 64 (by decide) wraps_u64 8 _ b (by omega) (by simp only [Int.reducePow]; omega) (by simp only [Int.reducePow]; omega) hb.1 (by simp only [Int.reducePow]; omega) (by simp only [Int.reducePow]; omega)
  have hu2 : IntKind.u64.wrap (((BitVec.ofInt 64 (y % 18446744073709551616) ||| BitVec.ofInt 64 b).toNat : Nat) : Int) = y % 18446744073709551616 + b := hu
  show IntKind.i64.wrap (((BitVec.ofInt 64 y ||| BitVec.ofInt 64 b).toNat : Nat) : Int) = _
  have e : BitVec.ofInt 64 (y % 18446744073709551616) = BitVec.ofInt 64 y := by
    apply BitVec.eq_of_toNat_eq
    rw [BitVec.toNat_ofInt, BitVec.toNat_ofInt]
    simp
  rw [e] at hu2
  have hlt := (BitVec.ofInt 64 y ||| BitVec.ofInt 64 b).isLt
  clear hu e
  generalize (BitVec.ofInt 64 y ||| BitVec.ofInt 64 b).toNat = z at hu2 hlt ⊢
  simp only [Nat.reducePow] at hlt
  rw [u64w_id (by omega) (by omega)] at hu2
  rw [IntKind.wrap_i64]
  omega
theorem big64_l0 (s : ByteArray) (hs : s.size ≤ 8) (j : Nat) : ∀ (i : Nat) (acc A : Int), i + j = s.size → -9223372036854775808 ≤ acc → acc ≤ 9223372036854775807 → acc % 18446744073709551616 = A % 18446744073709551616 →
    EvP (fun k => spec_l1Big.l0 k s acc (i : Int)) (fun r => r % 18446744073709551616 = valA A ((B s).drop i) % 18446744073709551616) := by
  induction j with
  | zero =>
    intro i acc A hi h0 h1 h2
    refine EvP.step (fun k => by rw [spec_l1Big.l0]) ?_
    refine EvP.neg (by omega) (EvP.some ?_)
    rw [List.drop_eq_nil_of_le (by rw [B_length]; omega)]; exact h2
  | succ j ih =>
    intro i acc A hi h0 h1 h2
    refine EvP.step (fun k => by rw [spec_l1Big.l0]) ?_
    refine EvP.pos (by omega) (EvP.pos (by omega) ?_)
    rw [drop_rd (l := B s) (n := i) (by rw [B_length]; omega), valA, bt_B s _ (by omega)]
    have hb := bytes_rd (B_bytes s) (i : Int)
    generalize rd (B s) (i : Int) = b at hb ⊢
    have hw := wrap64_range (acc * 256)
    have hw2 : wrap64 (acc * 256) % 256 = 0 := by unfold wrap64; omega
    have hw3 : wrap64 (acc * 256) % 18446744073709551616 = acc * 256 % 18446744073709551616 := by unfold wrap64; omega
    rw [w64 (n := b) (by omega) (by omega), w64 (n := (i : Int) + 1) (by omega) (by omega), or_i64_low _ b hw.1 hw.2 hw2 hb]
    generalize wrap64 (acc * 256) = y at hw hw2 hw3 ⊢
    exact ih (i + 1) (y + b) (A * 256 + b) (by omega) (by omega) (by omega) (by omega)
theorem big64_ok (s : ByteArray) (hs : s.size ≤ 8) : EvP (fun k => spec_l1Big.f k s) (fun r => r % 18446744073709551616 = valA 0 (B s) % 18446744073709551616) := by
  simp only [spec_l1Big.f]
  exact big64_l0 s hs s.size 0 0 0 (by omega) (by omega) (by omega) rfl
theorem mul_j1 (q : V) (j : Nat) (p acc : V) (i : Nat) (hi : i + j + 1 = 128)
    (ih : ∀ (p acc : V), EvP (fun k => spec_l5Mul.l0 k ((i : Int) + 1) (N q.1) (N q.2) (N p.1) (N p.2) (N acc.1) (N acc.2)) (· = (N (run q j (i + 1) p acc).1, N (run q j (i + 1) p acc).2)))
    (x : Int) (hx : Go.bits .and .u64 x 1 = 1 ↔ bit q i = true) :
    EvP (fun k => spec_l5Mul.j1 k (i : Int) x (N q.1) (N q.2) (N p.1) (N p.2) (N acc.1) (N acc.2)) (· = (N (run q (j + 1) i p acc).1, N (run q (j + 1) i p acc).2)) := by
  refine EvP.step (fun k => by rw [spec_l5Mul.j1]) ?_
  rw [w64 (n := (i : Int) + 1) (by omega) (by omega)]
  simp only [half_N, top_N, or_N, R_N, xor_N]
  have eX : X p = ((p.1 >>> 1) ^^^ (if p.2.getLsbD 0 then R else 0), (p.2 >>> 1) ||| (p.1 <<< 63)) := rfl
  have e1 : p.2.getLsbD 0 = true → X p = ((p.1 >>> 1) ^^^ R, (p.2 >>> 1) ||| (p.1 <<< 63)) := fun h => by rw [eX, if_pos h]
  have e2 : ¬ p.2.getLsbD 0 = true → X p = (p.1 >>> 1, (p.2 >>> 1) ||| (p.1 <<< 63)) := fun h => by rw [eX, if_neg h]; simp
  rw [run]
  by_cases h : bit q i = true
  · rw [if_pos h]
    refine EvP.pos (hx.2 h) ?_
    by_cases h2 : p.2.getLsbD 0 = true
    · refine EvP.pos ((low_N p.2).2 h2) ?_
      have := ih (X p) (xo acc p)
      rw [e1 h2] at this ⊢
      exact this
    · refine EvP.neg (fun h' => h2 ((low_N p.2).1 h')) ?_
      have := ih (X p) (xo acc p)
      rw [e2 h2] at this ⊢
      exact this
  · rw [if_neg h]
    refine EvP.neg (fun h' => h (hx.1 h')) ?_
    by_cases h2 : p.2.getLsbD 0 = true
    · refine EvP.pos ((low_N p.2).2 h2) ?_
      have := ih (X p) acc
      rw [e1 h2] at this ⊢
      exact this
    · refine EvP.neg (fun h' => h2 ((low_N p.2).1 h')) ?_
      have := ih (X p) acc
      rw [e2 h2] at this ⊢
      exact this
theorem mul_l0 (q : V) (j : Nat) : ∀ (i : Nat) (p acc : V), i + j = 128 →
    EvP (fun k => spec_l5Mul.l0 k (i : Int) (N q.1) (N q.2) (N p.1) (N p.2) (N acc.1) (N acc.2)) (· = (N (run q j i p acc).1, N (run q j i p acc).2)) := by
  induction j with
  | zero =>
    intro i p acc hi
    refine EvP.step (fun k => by rw [spec_l5Mul.l0]) ?_
    exact EvP.neg (by omega) (EvP.some rfl)
  | succ j ih =>
    intro i p acc hi
    have ih2 := fun p acc => ih (i + 1) p acc (by omega)
    refine EvP.step (fun k => by rw [spec_l5Mul.l0]) ?_
    rw [w64 (n := 63 - (i : Int)) (by omega) (by omega), w64 (n := 127 - (i : Int)) (by omega) (by omega), u64w_id (n := 127 - (i : Int)) (by omega) (by omega)]
    have hw : 0 ≤ IntKind.u64.wrap (63 - (i : Int)) := by rw [u64w]; omega
    refine EvP.pos (by omega) (EvP.pos hw ?_)
    by_cases h : i < 64
    · rw [u64w_id (n := 63 - (i : Int)) (by omega) (by omega)]
      refine EvP.neg (by omega) (mul_j1 q j p acc i (by omega) ih2 _ ?_)
      rw [show 63 - (i : Int) = ((63 - i : Nat) : Int) by omega, shr_N _ _ (by omega), bit, if_pos h]
    · refine EvP.pos (by omega) (EvP.pos (by omega) (mul_j1 q j p acc i (by omega) ih2 _ ?_))
      rw [show 127 - (i : Int) = ((127 - i : Nat) : Int) by omega, shr_N _ _ (by omega), bit, if_neg h]
theorem mul_spec (q p : V) : EvP (fun k => spec_l5Mul.f k (N q.1) (N q.2) (N p.1) (N p.2)) (· = (N (T q p).1, N (T q p).2)) := by
  simp only [spec_l5Mul.f]
  have := mul_l0 q 128 0 p zero (by omega)
  rw [run_T] at this
  exact this
theorem wrap_val {r x : Int} (h : r % 18446744073709551616 = x % 18446744073709551616) (h0 : 0 ≤ x ∧ x < 18446744073709551616) : IntKind.u64.wrap r = x := by rw [u64w, h]; omega
theorem of_spec {s : ByteArray} (h : s.size = 16) : EvP (fun k => spec_l5Of.f k s) (· = (N (vOf s).1, N (vOf s).2)) := by
  simp only [spec_l5Of.f]
  have hb := B_bytes s
  have hl := B_length s
  refine EvP.pos (by omega) (EvP.pos (by omega) ?_)
  refine EvP.bind (big64_ok _ (by rw [ByteArray.size_extract]; omega)) ?_
  intro t ht
  refine EvP.bind (big64_ok _ (by rw [ByteArray.size_extract]; omega)) ?_
  intro u hu
  refine EvP.some ?_
  rw [B_extract, List.drop_zero] at ht
  rw [B_extract, List.take_of_length_le (l := B s) (i := s.size) (by omega)] at hu
  have v1 := val8 ((B s).take 8) (hb.take 8) (by rw [List.length_take]; omega)
  have v2 := val8 ((B s).drop 8) (hb.drop 8) (by rw [List.length_drop]; omega)
  unfold vOf
  rw [N_ofInt v1, N_ofInt v2, wrap_val ht v1, wrap_val hu v2]
theorem BE_wrap (x : Int) : BE 8 (wrap64 x) = BE 8 x := by
  have e : wrap64 x = x + 256 ^ 8 * ((wrap64 x - x) / 18446744073709551616) := by
    simp only [Int.reducePow]
    unfold wrap64
    omega
  rw [e, BE_mod]
theorem told_spec (v : V) : EvP (fun k => spec_l5Told.f k (N v.1) (N v.2)) (· = tOf v) := by
  simp only [spec_l5Told.f]
  refine EvP.bind (fixed_ok _ 8 (by decide)) ?_
  rintro a rfl
  refine EvP.bind (fixed_ok _ 8 (by decide)) ?_
  rintro b rfl
  refine EvP.pos (by rw [strOfNums_size, strOfNums_size, BE_length, BE_length]; decide) (EvP.some ?_)
  rw [BE_wrap, BE_wrap]; rfl
end Go.Proofs.Ytcngjidojibleaa.CFnGhash
