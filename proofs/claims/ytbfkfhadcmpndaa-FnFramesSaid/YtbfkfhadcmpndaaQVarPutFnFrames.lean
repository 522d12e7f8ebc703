/- Both packages write a number's bytes as told. -/
import Derived.Test.YtbfkfhadcmpndaaQVar
import Derived.Test.YtbfkfhadcmpndaaQBeImplFnFrames
import Derived.Test.YtbfkfhadcmpndaaQBeSpecFnFrames
set_option linter.unusedVariables false
set_option linter.unusedSimpArgs false
namespace Go.Proofs.Ytbfkfhadcmpndaa.CFnFrames
open Go Go.Proofs Go.Proofs.YtbfkfhadcmpndaaPM Go.Proofs.Ytbfkfhadcmpndaa.Q Go.Proofs.Ytbfkfhadcmpndaa.GFnFrames

theorem or_comm' (k : IntKind) (x y : Int) : Go.bits .or k x y = Go.bits .or k y x := by unfold Go.bits; simp only; rw [BitVec.or_comm]
theorem or_u64 {n : Int} (h0 : 0 ≤ n) (i : Nat) (a h : Int) (e : h = a * 2 ^ i) (ha : 0 ≤ a) (hi : i ≤ 62) (hn : n < 2 ^ i) (hs : h + n < 18446744073709551616) : Go.bits .or .u64 n h = n + h := by
  subst e
  rw [or_comm', bits_or_disj .u64 64 (by decide) wraps_u64 i a n ha (by simp only [Int.reducePow]; omega) h0 hn (by simp only [Int.reducePow]; omega)]
  omega
theorem or_i64 {n : Int} (h0 : 0 ≤ n) (i : Nat) (a h : Int) (e : h = a * 2 ^ i) (ha : 0 ≤ a) (hi : i ≤ 62) (hn : n < 2 ^ i) (hs : h + n < 9223372036854775808) : Go.bits .or .i64 n h = n + h := by
  subst e
  rw [or_comm', bits_or_disj .i64 63 (by decide) wraps_i64 i a n ha (by simp only [Int.reducePow]; omega) h0 hn (by simp only [Int.reducePow]; omega)]
  omega
theorem or_hi {n : Int} (h0 : 0 ≤ n) (h1 : n < 4611686018427387904) : Go.bits .or .u64 n (vhi (vsz n)) = n + vhi (vsz n) := by
  rcases vsz_cases h0 h1 with ⟨e, h⟩ | ⟨e, h⟩ | ⟨e, h⟩ | ⟨e, h⟩ <;> rw [e]
  · exact or_u64 h0 6 0 0 (by decide) (by decide) (by decide) (by simpa using h) (by omega)
  · exact or_u64 h0 14 1 16384 (by decide) (by decide) (by decide) (by simpa using h) (by omega)
  · exact or_u64 h0 30 2 2147483648 (by decide) (by decide) (by decide) (by simpa using h) (by omega)
  · exact or_u64 h0 62 3 13835058055282163712 (by decide) (by decide) (by decide) (by simpa using h) (by omega)
theorem or_neg {n : Int} (h0 : 0 ≤ n) (h1 : n < 4611686018427387904) : Go.bits .or .i64 n (-4611686018427387904) = n - 4611686018427387904 := by
  have hu : Go.bits .or .u64 n 13835058055282163712 = n + 13835058055282163712 := or_u64 h0 62 3 13835058055282163712 (by decide) (by decide) (by decide) (by simpa using h1) (by omega)
  have hu2 : IntKind.u64.wrap (((BitVec.ofInt 64 n ||| BitVec.ofInt 64 13835058055282163712).toNat : Nat) : Int) = n + 13835058055282163712 := hu
  show IntKind.i64.wrap (((BitVec.ofInt 64 n ||| BitVec.ofInt 64 (-4611686018427387904)).toNat : Nat) : Int) = _
  have e : BitVec.ofInt 64 (-4611686018427387904) = BitVec.ofInt 64 13835058055282163712 := by decide
  rw [e]
  have hlt := (BitVec.ofInt 64 n ||| BitVec.ofInt 64 13835058055282163712).isLt
  clear hu e
  generalize (BitVec.ofInt 64 n ||| BitVec.ofInt 64 13835058055282163712).toNat = z at hu2 hlt ⊢
  simp only [Nat.reducePow] at hlt
  rw [u64i (by omega) (by omega)] at hu2
  rw [IntKind.wrap_i64]
  omega
theorem size_impl (n : Int) : EvP (fun N => impl_varintSize N n) (· = (((vsz n : Int), ()), ())) := by
  refine EvP.of (fun N => impl_varintSize.eq N _) ?_
  unfold vsz
  refine EvP.ite (fun h => ?_) (fun h => EvP.ite (fun h2 => ?_) (fun h2 => EvP.ite (fun h3 => ?_) (fun h3 => ?_)))
  · rw [if_pos h]; exact EvP.some rfl
  · rw [if_neg h, if_pos h2]; exact EvP.some rfl
  · rw [if_neg h, if_neg h2, if_pos h3]; exact EvP.some rfl
  · rw [if_neg h, if_neg h2, if_neg h3]; exact EvP.some rfl
theorem size_spec (n : Int) : EvP (fun N => spec_l1Size N n) (· = (((vsz n : Int), ()), ())) := by
  refine EvP.of (fun N => spec_l1Size.eq N _) ?_
  unfold vsz
  refine EvP.ite (fun h => ?_) (fun h => EvP.ite (fun h2 => ?_) (fun h2 => EvP.ite (fun h3 => ?_) (fun h3 => ?_)))
  · rw [if_pos h]; exact EvP.some rfl
  · rw [if_neg h, if_pos h2]; exact EvP.some rfl
  · rw [if_neg h, if_neg h2, if_pos h3]; exact EvP.some rfl
  · rw [if_neg h, if_neg h2, if_neg h3]; exact EvP.some rfl
theorem var_tab : ∀ m : Nat, (m = 1 ∨ m = 2 ∨ m = 4 ∨ m = 8) → hasK (m : Int) [(8, 3), (4, 2), (2, 1), (1, 0)] = true ∧ 0 ≤ IntKind.i64.wrap (IntKind.i64.wrap (8 * (m : Int)) - 2) ∧
    shlI .u64 (getK (m : Int) [(8, 3), (4, 2), (2, 1), (1, 0)]) (IntKind.i64.wrap (IntKind.i64.wrap (8 * (m : Int)) - 2)) = vhi m := by
  intro m h
  rcases h with rfl | rfl | rfl | rfl <;> decide
theorem varint_impl {n : Int} (h0 : 0 ≤ n) (h1 : n < 4611686018427387904) : EvP (fun N => impl_varint N n) (· = ((vbs n, ()), ())) := by
  refine EvP.of (fun N => impl_varint.eq N _) (EvP.to (size_impl n) ?_)
  dsimp only
  have hc : vsz n = 1 ∨ vsz n = 2 ∨ vsz n = 4 ∨ vsz n = 8 := by rcases vsz_cases h0 h1 with ⟨e, h⟩ | ⟨e, h⟩ | ⟨e, h⟩ | ⟨e, h⟩ <;> rw [e] <;> decide
  obtain ⟨t1, t2, t3⟩ := var_tab _ hc
  have hp := vsz_pos n
  have hh : 0 ≤ vhi (vsz n) := by rcases hc with e | e | e | e <;> rw [e] <;> decide
  rw [t3, u64i h0 (by omega), or_hi h0 h1]
  exact EvP.chk t1 (EvP.chk1 t2 (EvP.to (bigEndian_ok _ _ (by omega) (by omega)) (EvP.some rfl)))
theorem var_spec {n : Int} (h0 : 0 ≤ n) (h1 : n < 4611686018427387904) : EvP (fun N => spec_l1Var N n) (· = ((vbs n, ()), ())) := by
  refine EvP.of (fun N => spec_l1Var.eq N _) (EvP.to (size_spec n) ?_)
  dsimp only
  unfold vbs
  rcases vsz_cases h0 h1 with ⟨e, h⟩ | ⟨e, h⟩ | ⟨e, h⟩ | ⟨e, h⟩ <;> rw [e]
  · exact EvP.pos (by decide) (EvP.to (fixed_ok n 1 (by decide)) (EvP.some (by simp [vhi])))
  · refine EvP.neg (by decide) (EvP.pos (by decide) ?_)
    rw [or_i64 h0 14 1 16384 (by decide) (by decide) (by decide) (by simpa using h) (by omega)]
    exact EvP.to (fixed_ok _ 2 (by decide)) (EvP.some rfl)
  · refine EvP.neg (by decide) (EvP.neg (by decide) (EvP.pos (by decide) ?_))
    rw [or_i64 h0 30 2 2147483648 (by decide) (by decide) (by decide) (by simpa using h) (by omega)]
    exact EvP.to (fixed_ok _ 4 (by decide)) (EvP.some rfl)
  · refine EvP.neg (by decide) (EvP.neg (by decide) (EvP.neg (by decide) ?_))
    rw [or_neg h0 h1]
    refine EvP.to (fixed_ok _ 8 (by decide)) (EvP.some ?_)
    have : be 8 (n + vhi 8) = be 8 (n - 4611686018427387904) := by
      unfold be
      rw [show n + vhi 8 = (n - 4611686018427387904) + 256 ^ 8 * 1 by simp [vhi]; omega, BE_mod]
    rw [this]
end Go.Proofs.Ytbfkfhadcmpndaa.CFnFrames
