/- FnNumbers: both packages tell the same bytes of a number, and the same number of bytes; a number comes back from its lowest bytes, whatever of those behind what was acknowledged was the largest. -/
import Derived.Test.YtcngjidojibleabQNumberFnNumbers
import Derived.Test.YtcngjidojibleabQLawNumFnNumbers
import Derived.Test.YtcngjidojibleabSFnNumbers
set_option linter.unusedVariables false
set_option linter.unusedSimpArgs false
namespace Go.Proofs.Ytcngjidojibleab.Pure
open Go Go.Proofs Go.Proofs.YtcngjidojibleabPM Go.Proofs.Ytcngjidojibleab.Q Go.Proofs.Ytcngjidojibleab.CFnNumbers Go.Proofs.Ytcngjidojibleab.GFnNumbers

/-- The law's own reading of bytes. -/
theorem low_l (a1 : List Int) (d e : Int) (s : ByteArray) (j : Nat) : ∀ (i : Nat) (acc : Int), i + j = s.size → 0 ≤ acc → (acc + 1) * 256 ^ j ≤ 9223372036854775808 → s.size ≤ 1000000 →
    EvP (fun k => laws_FnNumbers.l0 k a1 d e s acc (i : Int)) (fun r => r.1.1 = valA acc ((bytesL s).drop i)) := by
  induction j with
  | zero =>
    intro i acc hi h0 h1 hs
    refine EvP.step (fun k => laws_FnNumbers.l0.eq k _ _ _ _ _ _) (EvP.neg (by omega) (EvP.some ?_))
    rw [List.drop_eq_nil_of_le (by rw [bytesL_len]; omega)]; rfl
  | succ j ih =>
    intro i acc hi h0 h1 hs
    refine EvP.step (fun k => laws_FnNumbers.l0.eq k _ _ _ _ _ _) (EvP.pos (by omega) (EvP.chk2 (by omega) (by omega) ?_))
    rw [drop_getD (l := bytesL s) (n := i) (by rw [bytesL_len]; omega), valA, Int.toNat_natCast]
    have hb := Bytes.getD (bytesL_byte s) i
    generalize (bytesL s).getD i 0 = b at hb ⊢
    rw [Int.pow_succ] at h1
    have hp : (1 : Int) ≤ 256 ^ j := Int.pow_pos (by decide)
    have h2 : (acc * 256 + b + 1) * 256 ^ j ≤ 9223372036854775808 := by
      have : (acc * 256 + b + 1) * 256 ^ j ≤ ((acc + 1) * 256) * 256 ^ j := Int.mul_le_mul_of_nonneg_right (by omega) (by omega)
      rw [Int.mul_assoc, Int.mul_comm 256 (256 ^ j)] at this
      omega
    have h3 : acc * 256 + b + 1 ≤ 9223372036854775808 := by
      have : (acc * 256 + b + 1) * 1 ≤ (acc * 256 + b + 1) * 256 ^ j := Int.mul_le_mul_of_nonneg_left hp (by omega)
      omega
    have e0 : shlI .i64 acc 8 = acc * 256 := by
      show IntKind.i64.wrap (acc * 2 ^ 8) = _
      rw [show (2 : Int) ^ 8 = 256 from rfl, i64w (by omega) (by omega)]
    rw [e0, i64w (n := b) (by omega) (by omega), i64w (n := (i : Int) + 1) (by omega) (by omega), or_byte_i64 h0 hb (by omega)]
    exact ih (i + 1) (acc * 256 + b) (by omega) (by omega) h2 hs
theorem FnNumbers (a0 : List Int) (h0 : ∀ n ∈ a0, 0 ≤ n ∧ n ≤ 255) (s0 : a0.length ≤ 140737488351232) (a1 : List Int) (h1 : ∀ n ∈ a1, 0 ≤ n ∧ n ≤ 255) (s1 : a1.length ≤ 140737488351232) : ∃ N, laws_FnNumbers N a0 a1 = some ((true, ()), ()) := by
  refine EvP.fin (EvP.of (fun k => laws_FnNumbers.eq k _ _) ?_)
  refine EvP.ite (fun _ => EvP.some rfl) (fun _ => ?_)
  refine EvP.andK (spec_DrawNumberBytes_s h0) ?_
  rintro ⟨⟨n, acked, ⟨⟩⟩, ⟨⟩⟩ ⟨p1, p2, p3, p4, -⟩
  dsimp only at p1 p2 p3 p4 ⊢
  refine EvP.to (NumberBytes_impl (by omega) (by omega)) (EvP.to (NumberBytes_spec (by omega) (by omega)) (EvP.to (a := ((false, ()), ())) (EvP.no (by simp) (EvP.some (by simp))) (EvP.no rfl ?_)))
  refine EvP.to (a := .inr ((), ())) ?_ ?_
  · unfold nbOf
    by_cases h : nbOk n acked ∧ szk (n - acked) ≠ 0
    · rw [if_pos h]
      obtain ⟨h, hz⟩ := h
      have hk := szk_le (n - acked)
      have hpw : ((0 : Int) + 1) * 256 ^ (be (szk (n - acked)) n).size ≤ 9223372036854775808 := by
        rw [be_size]
        have : szk (n - acked) = 1 ∨ szk (n - acked) = 2 ∨ szk (n - acked) = 3 ∨ szk (n - acked) = 4 := by omega
        rcases this with e | e | e | e <;> rw [e] <;> decide
      refine EvP.yes rfl (EvP.andK (low_l a1 n acked (be (szk (n - acked)) n) (be (szk (n - acked)) n).size 0 0 (by omega) (by omega) hpw (by rw [be_size]; omega)) ?_)
      rintro r hr
      rw [hr]
      refine EvP.andK (lawNumber_ok h1 s1) ?_
      rintro ⟨⟨m, ⟨⟩⟩, ⟨⟩⟩ ⟨hm1, hm2⟩
      dsimp only at hm1 hm2 ⊢
      have ha := h.1
      have hb := h.2
      rw [i64w (n := n - acked) (by omega) (by omega)]
      have e2 : Int.tmod m (n - acked) = m % (n - acked) := Int.tmod_eq_emod_of_nonneg hm1
      have e3 := Int.emod_nonneg m (show n - acked ≠ 0 by omega)
      have e4 := Int.emod_lt_of_pos m (show 0 < n - acked by omega)
      rw [e2]
      refine EvP.nz (by omega) ?_
      rw [i64w (by omega) (by omega), be_size, List.drop_zero]
      refine EvP.to NumberOf_ok ?_
      have hv : valA 0 (bytesL (be (szk (n - acked)) n)) = vof (be (szk (n - acked)) n) := rfl
      rw [hv, noVal_back h hz (by omega) (by omega)]
      exact EvP.to (a := ((false, ()), ())) (EvP.no rfl (EvP.some (by simp))) (EvP.no rfl (EvP.some rfl))
    · rw [if_neg h]
      exact EvP.no rfl (EvP.some rfl)
  · refine EvP.inr (EvP.andK (spec_DrawNumberOf_s h1) ?_)
    rintro ⟨⟨x, y, z, ⟨⟩⟩, ⟨⟩⟩ -
    dsimp only
    refine EvP.to NumberOf_ok (EvP.to NumberOf_spec ?_)
    generalize noOf x y z = v
    exact EvP.yes (by simp) (EvP.some (by simp))
end Go.Proofs.Ytcngjidojibleab.Pure
