/- Both packages write a number's bytes as told. -/
import Derived.Test.YtcngjidojibleaaVarBe
import Derived.Test.YtcngjidojibleaaBeImplFnCarried
import Derived.Test.YtcngjidojibleaaBeSpecFnCarried
import Derived.Test.YtcngjidojibleaaInFnCarried
set_option linter.unusedVariables false
set_option linter.unusedSimpArgs false
namespace Go.Proofs.Ytcngjidojibleaa.CFnCarried
open Go.RowKit Go.Proofs.Ytcngjidojibleaa.B Go.Proofs.Ytcngjidojibleaa.PFnCarried Go.Proofs.YtcngjidojibleaaW.PrintWords Go.Proofs.YtcngjidojibleaaW.PrintLast Go.Proofs.YtcngjidojibleaaW.PrintMore

theorem or_comm' (k : IntKind) (x y : Int) : Go.bits .or k x y = Go.bits .or k y x := by unfold Go.bits; simp only; rw [BitVec.or_comm]
theorem or_hi {n : Int} (h0 : 0 ≤ n) (h1 : n < 4611686018427387904) : Go.bits .or .u64 n (vhi (vsz n)) = n + vhi (vsz n) := by
  rw [or_comm']
  have key : ∀ (i : Nat) (h : Int), i ≤ 62 → 0 ≤ h → h % 2 ^ i = 0 → h < 18446744073709551616 → n < 2 ^ i → Go.bits .or .u64 h n = n + h := by
    intro i h hi hh hm hl hn
    rw [bits_join .u64 64 (by decide) wraps_u64 i h n hh hm (by simp only [Int.reducePow]; omega) h0 hn (by simp only [Int.reducePow]; omega)]
    omega
  rcases vsz_cases h0 h1 with ⟨e, h⟩ | ⟨e, h⟩ | ⟨e, h⟩ | ⟨e, h⟩ <;> rw [e]
  · exact key 6 0 (by decide) (by decide) (by decide) (by decide) (by simpa using h)
  · exact key 14 16384 (by decide) (by decide) (by decide) (by decide) (by simpa using h)
  · exact key 30 2147483648 (by decide) (by decide) (by decide) (by decide) (by simpa using h)
  · exact key 62 13835058055282163712 (by decide) (by decide) (by decide) (by decide) (by simpa using h)
theorem or_i64 {n : Int} (h0 : 0 ≤ n) (i : Nat) (h : Int) (hi : i ≤ 62) (hh : 0 ≤ h) (hm : h % 2 ^ i = 0) (hl : h < 9223372036854775808) (hn : n < 2 ^ i) (h1 : n < 4611686018427387904) : Go.bits .or .i64 n h = n + h := by
  rw [or_comm', bits_join .i64 63 (by decide) wraps_i64 i h n hh hm (by simp only [Int.reducePow]; omega) h0 hn (by simp only [Int.reducePow]; omega)]
  omega
theorem or_neg {n : Int} (h0 : 0 ≤ n) (h1 : n < 4611686018427387904) : Go.bits .or .i64 n (-4611686018427387904) = n - 4611686018427387904 := by
  have hu : Go.bits .or .u64 n 13835058055282163712 = n + 13835058055282163712 := by
    rw [or_comm', bits_join .u64 64 (by decide) wraps_u64 62 13835058055282163712 n (by decide) (by decide) (by decide) h0 (by simpa using h1) (by simp only [Int.reducePow]; omega)]
    omega
  have hu2 : IntKind.u64.wrap (((BitVec.ofInt 64 n ||| BitVec.ofInt 64 13835058055282163712).toNat : Nat) : Int) = n + 13835058055282163712 := hu
  show IntKind.i64.wrap (((BitVec.ofInt 64 n ||| BitVec.ofInt 64 (-4611686018427387904)).toNat : Nat) : Int) = _
  have e : BitVec.ofInt 64 (-4611686018427387904) = BitVec.ofInt 64 13835058055282163712 := by decide
  rw [e]
  have hlt := (BitVec.ofInt 64 n ||| BitVec.ofInt 64 13835058055282163712).isLt
  clear hu e
  generalize (BitVec.ofInt 64 n ||| BitVec.ofInt 64 13835058055282163712).toNat = z at hu2 hlt ⊢
  simp only [Nat.reducePow] at hlt
  rw [u64w_id (by omega) (by omega)] at hu2
  rw [IntKind.wrap_i64]
  omega
theorem size_impl (n : Int) : impl_varintSize.f n = some (vsz n : Int) := by
  unfold impl_varintSize.f vsz
  repeat' split
  all_goals rfl
theorem size_spec (n : Int) : spec_l1Size.f n = some (vsz n : Int) := by
  unfold spec_l1Size.f vsz
  repeat' split
  all_goals rfl
theorem varint_impl {n : Int} (h0 : 0 ≤ n) (h1 : n < 4611686018427387904) : EvP (fun k => impl_varint.f k n) (· = vbs n) := by
  simp only [impl_varint.f, size_impl, Option.bind_some]
  have hc : ((vsz n : Int) = 1 ∨ (vsz n : Int) = 2 ∨ (vsz n : Int) = 4 ∨ (vsz n : Int) = 8) := by rcases vsz_cases h0 h1 with ⟨e, h⟩ | ⟨e, h⟩ | ⟨e, h⟩ | ⟨e, h⟩ <;> rw [e] <;> decide
  refine EvP.pos hc ?_
  have eh : impl_varint.hi (vsz n : Int) = vhi (vsz n) := by rcases vsz_cases h0 h1 with ⟨e, h⟩ | ⟨e, h⟩ | ⟨e, h⟩ | ⟨e, h⟩ <;> rw [e] <;> rfl
  have hp := vsz_pos n
  have hh : 0 ≤ vhi (vsz n) := by rcases vsz_cases h0 h1 with ⟨e, h⟩ | ⟨e, h⟩ | ⟨e, h⟩ | ⟨e, h⟩ <;> rw [e] <;> decide
  rw [eh, u64w_id (n := n) (by omega) (by omega), or_hi h0 h1]
  exact bigEndian_ok _ _ (by omega) (by omega)
theorem var_spec {n : Int} (h0 : 0 ≤ n) (h1 : n < 4611686018427387904) : EvP (fun k => spec_l1Var.f k n) (· = vbs n) := by
  simp only [spec_l1Var.f, size_spec, Option.bind_some]
  unfold vbs
  rcases vsz_cases h0 h1 with ⟨e, h⟩ | ⟨e, h⟩ | ⟨e, h⟩ | ⟨e, h⟩ <;> rw [e]
  · refine EvP.pos (by decide) ?_
    refine EvP.bind (fixed_ok n 1 (by decide)) ?_
    rintro r rfl
    exact EvP.some (by simp [vhi])
  · refine EvP.neg (by decide) (EvP.pos (by decide) ?_)
    rw [or_i64 h0 14 16384 (by decide) (by decide) (by decide) (by decide) (by simpa using h) h1]
    refine EvP.bind (fixed_ok _ 2 (by decide)) ?_
    rintro r rfl
    exact EvP.some rfl
  · refine EvP.neg (by decide) (EvP.neg (by decide) (EvP.pos (by decide) ?_))
    rw [or_i64 h0 30 2147483648 (by decide) (by decide) (by decide) (by decide) (by simpa using h) h1]
    refine EvP.bind (fixed_ok _ 4 (by decide)) ?_
    rintro r rfl
    exact EvP.some rfl
  · refine EvP.neg (by decide) (EvP.neg (by decide) (EvP.neg (by decide) ?_))
    rw [or_neg h0 h1]
    refine EvP.bind (fixed_ok _ 8 (by decide)) ?_
    rintro r rfl
    refine EvP.some ?_
    rw [← BE_mod 8 (n - 4611686018427387904) 1]
    congr 2
    simp [vhi]
    omega
end Go.Proofs.Ytcngjidojibleaa.CFnCarried
