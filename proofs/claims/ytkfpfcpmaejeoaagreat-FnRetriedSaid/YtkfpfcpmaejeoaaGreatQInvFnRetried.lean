/- The program's and the reference's inverses of bytes are those of the field. -/
import Derived.Test.YtkfpfcpmaejeoaaGreatQMulFnRetried
set_option linter.unusedVariables false
set_option linter.unusedSimpArgs false
namespace Go.Proofs.YtkfpfcpmaejeoaaGreat.CFnRetried
open Go Go.Proofs Go.Proofs.YtkfpfcpmaejeoaaGreatPM Go.Proofs.YtkfpfcpmaejeoaaGreat.Q Go.Proofs.YtkfpfcpmaejeoaaGreat.GFnRetried

theorem inv_impl_l {a : Nat} (ha : a < 256) (d : Nat) : ∀ (m : Nat) (t : Int), t + d = 254 → m + d = 254 → EvP (fun k => impl_inverseGf.l0 k (a : Int) (gpow a m : Int) t) (· = (((ginv a : Int), ()), ())) := by
  induction d with
  | zero =>
    intro m t ht hm
    obtain rfl : m = 254 := by omega
    exact EvP.step (fun k => impl_inverseGf.l0.eq k _ _ _) (EvP.neg (by omega) (EvP.some rfl))
  | succ d ih =>
    intro m t ht hm
    refine EvP.step (fun k => impl_inverseGf.l0.eq k _ _ _) (EvP.pos (by omega) (EvP.to (mulGf_impl (gpow_lt ha m) ha) ?_))
    rw [i64w (by omega) (by omega)]
    exact ih (m + 1) _ (by omega) (by omega)
theorem inverseGf_impl {a : Nat} (ha : a < 256) : EvP (fun k => impl_inverseGf k (a : Int)) (· = (((ginv a : Int), ()), ())) :=
  EvP.of (fun k => impl_inverseGf.eq k _) (EvP.to (inv_impl_l ha 254 0 0 (by decide) (by decide)) (EvP.some rfl))
theorem odd_i64 {n : Nat} (h : n < 256) : (Go.bits .and .i64 (n : Int) 1 = 1 ↔ n % 2 = 1) := by
  have : ∀ n : Fin 256, (Go.bits .and .i64 ((n : Nat) : Int) 1 = 1 ↔ (n : Nat) % 2 = 1) := by decide +kernel
  exact this ⟨n, h⟩
theorem half_i64 (n : Nat) : shrI .i64 (n : Int) 1 = ((n / 2 : Nat) : Int) := by
  show Int.fdiv (n : Int) 2 = _
  rw [Int.fdiv_eq_ediv_of_nonneg _ (by decide)]
  rfl
theorem inv_spec_l (f : Nat) : ∀ (a o n : Nat), a < 256 → o < 256 → n < 2 ^ f → f ≤ 8 → EvP (fun k => spec_l3Inverse.l0 k (a : Int) (o : Int) (n : Int)) (· = (((gsq f a o n : Int), ()), ())) := by
  induction f with
  | zero =>
    intro a o n ha ho hn _
    obtain rfl : n = 0 := by omega
    exact EvP.step (fun k => spec_l3Inverse.l0.eq k _ _ _) (EvP.neg (by decide) (EvP.some (by rw [gsq])))
  | succ f ih =>
    intro a o n ha ho hn hf
    have hp : (2 : Nat) ^ (f + 1) ≤ 2 ^ 8 := Nat.pow_le_pow_right (by decide) hf
    refine EvP.step (fun k => spec_l3Inverse.l0.eq k _ _ _) (EvP.ite (fun h0 => ?_) (fun h0 => EvP.some ?_))
    · rw [gsq, if_neg (by omega)]
      refine EvP.to (a := ((((if n % 2 = 1 then gf o a else o : Nat) : Int), ()), ())) ?_ (EvP.to (mulGf_spec ha ha) ?_)
      · refine EvP.ite (fun h1 => EvP.to (mulGf_spec ho ha) (EvP.some ?_)) (fun h1 => EvP.some ?_)
        · rw [if_pos ((odd_i64 (by omega)).1 h1)]
        · rw [if_neg (fun q => h1 ((odd_i64 (by omega)).2 q))]
      · dsimp only
        rw [half_i64]
        refine ih _ _ _ (gf_lt ha) ?_ (by omega) (by omega)
        split
        · exact gf_lt ho
        · exact ho
    · obtain rfl : n = 0 := by omega
      rw [gsq, if_pos rfl]
theorem inverse_spec {a : Nat} (ha : a < 256) : EvP (fun k => spec_l3Inverse k (a : Int)) (· = (((ginv a : Int), ()), ())) := by
  refine EvP.of (fun k => spec_l3Inverse.eq k _) (EvP.to (inv_spec_l 8 a 1 254 ha (by decide) (by decide) (by decide)) (EvP.some ?_))
  rw [ginv_sq ha]
end Go.Proofs.YtkfpfcpmaejeoaaGreat.CFnRetried
