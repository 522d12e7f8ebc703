/- The program's and the reference's products and inverses of bytes are those of the field. -/
import Derived.Test.YtcggngmcaicdpaaGf
import Derived.Test.YtcggngmcaicdpaaStr
import Derived.Test.YtcggngmcaicdpaaPFnGaloisx0
import Derived.Test.YtcggngmcaicdpaaPFnGaloisx1
import Derived.Test.YtcggngmcaicdpaaPFnGaloisx2
set_option linter.unusedVariables false
set_option linter.unusedSimpArgs false
namespace Go.Proofs.Ytcggngmcaicdpaa.CFnGalois
open Go.RowKit Go.Proofs.Ytcggngmcaicdpaa.B Go.Proofs.Ytcggngmcaicdpaa.PFnGalois Go.Proofs.YtcggngmcaicdpaaW.PrintWords Go.Proofs.YtcggngmcaicdpaaW.PrintLast Go.Proofs.YtcggngmcaicdpaaW.PrintMore

theorem u8_xor {a b : Nat} (ha : a < 256) (hb : b < 256) : Go.bits .xor .u8 (a : Int) (b : Int) = ((a ^^^ b : Nat) : Int) :=
  bits_xor_nat .u8 8 (by decide) wraps_u8 a b ha hb
theorem odd_tab : ∀ b : Fin 256, (Go.bits .and .u8 ((b : Nat) : Int) 1 = 1 ↔ (b : Nat) % 2 = 1) := by decide +kernel
theorem xt_tab : ∀ a : Fin 256, (Go.bits .and .u8 ((a : Nat) : Int) 128 = 0 → (((a : Nat) : Int) * 2) % 256 = (xt a : Int)) ∧ (¬ Go.bits .and .u8 ((a : Nat) : Int) 128 = 0 → Go.bits .xor .u8 ((((a : Nat) : Int) * 2) % 256) 27 = (xt a : Int)) := by decide +kernel

theorem mul_impl (n : Nat) : ∀ (a b o : Nat), a < 256 → b < 2 ^ n → n ≤ 8 → o < 256 → EvP (fun k => impl_mulGf.l0 k (a : Int) (b : Int) (o : Int)) (· = ((o ^^^ gm n a b : Nat) : Int)) := by
  induction n with
  | zero =>
    intro a b o ha hb hn ho
    obtain rfl : b = 0 := by omega
    refine EvP.step (fun k => by rw [impl_mulGf.l0]) ?_
    exact EvP.pos rfl (EvP.some (by simp [gm]))
  | succ n ih =>
    intro a b o ha hb hn ho
    refine EvP.step (fun k => by rw [impl_mulGf.l0]) ?_
    refine EvP.ite (fun h0 => EvP.some ?_) (fun h0 => ?_)
    · obtain rfl : b = 0 := by omega
      rw [gm_zero_right]; simp
    · have hp : (2 : Nat) ^ (n + 1) ≤ 2 ^ 8 := Nat.pow_le_pow_right (by decide) hn
      have hb' : b < 256 := by omega
      have ho' := odd_tab ⟨b, hb'⟩
      have hx := xt_tab ⟨a, ha⟩
      simp only at ho' hx
      have e : ((b : Int) / 2) = ((b / 2 : Nat) : Int) := by omega
      rw [u8_xor ho ha, e, gm]
      refine EvP.ite (fun h1 => ?_) (fun h1 => ?_)
      · rw [if_pos (ho'.1 h1)]
        rw [← Nat.xor_assoc]
        refine EvP.ite (fun h2 => ?_) (fun h2 => ?_)
        · rw [hx.1 h2]; exact ih _ _ _ (xt_lt' ha) (by omega) (by omega) (xor_lt ho ha)
        · rw [hx.2 h2]; exact ih _ _ _ (xt_lt' ha) (by omega) (by omega) (xor_lt ho ha)
      · rw [if_neg (fun q => h1 (ho'.2 q)), Nat.zero_xor]
        refine EvP.ite (fun h2 => ?_) (fun h2 => ?_)
        · rw [hx.1 h2]; exact ih _ _ _ (xt_lt' ha) (by omega) (by omega) ho
        · rw [hx.2 h2]; exact ih _ _ _ (xt_lt' ha) (by omega) (by omega) ho
theorem mul_spec (n : Nat) : ∀ (a b o : Nat), a < 256 → b < 2 ^ n → n ≤ 8 → o < 256 → EvP (fun k => spec_l3Mul.l0 k (a : Int) (b : Int) (o : Int)) (· = ((o ^^^ gm n a b : Nat) : Int)) := by
  induction n with
  | zero =>
    intro a b o ha hb hn ho
    obtain rfl : b = 0 := by omega
    refine EvP.step (fun k => by rw [spec_l3Mul.l0]) ?_
    exact EvP.neg (by simp) (EvP.some (by simp [gm]))
  | succ n ih =>
    intro a b o ha hb hn ho
    refine EvP.step (fun k => by rw [spec_l3Mul.l0]) ?_
    refine EvP.ite (fun h0 => ?_) (fun h0 => EvP.some ?_)
    · have hp : (2 : Nat) ^ (n + 1) ≤ 2 ^ 8 := Nat.pow_le_pow_right (by decide) hn
      have hb' : b < 256 := by omega
      have ho' := odd_tab ⟨b, hb'⟩
      have hx := xt_tab ⟨a, ha⟩
      simp only at ho' hx
      have e : ((b : Int) / 2) = ((b / 2 : Nat) : Int) := by omega
      rw [u8_xor ho ha, e, gm]
      refine EvP.ite (fun h1 => ?_) (fun h1 => ?_)
      · rw [if_pos (ho'.1 h1)]
        rw [← Nat.xor_assoc]
        refine EvP.ite (fun h2 => ?_) (fun h2 => ?_)
        · rw [hx.1 h2]; exact ih _ _ _ (xt_lt' ha) (by omega) (by omega) (xor_lt ho ha)
        · rw [hx.2 h2]; exact ih _ _ _ (xt_lt' ha) (by omega) (by omega) (xor_lt ho ha)
      · rw [if_neg (fun q => h1 (ho'.2 q)), Nat.zero_xor]
        refine EvP.ite (fun h2 => ?_) (fun h2 => ?_)
        · rw [hx.1 h2]; exact ih _ _ _ (xt_lt' ha) (by omega) (by omega) ho
        · rw [hx.2 h2]; exact ih _ _ _ (xt_lt' ha) (by omega) (by omega) ho
    · obtain rfl : b = 0 := by omega
      rw [gm_zero_right]; simp
theorem mulGf_impl {a b : Nat} (ha : a < 256) (hb : b < 256) : EvP (fun k => impl_mulGf.f k (a : Int) (b : Int)) (· = (gf a b : Int)) := by
  simp only [impl_mulGf.f]
  refine (mul_impl 8 a b 0 ha hb (by decide) (by decide)).mono ?_
  rintro r rfl
  rw [Nat.zero_xor]; rfl
theorem mulGf_spec {a b : Nat} (ha : a < 256) (hb : b < 256) : EvP (fun k => spec_l3Mul.f k (a : Int) (b : Int)) (· = (gf a b : Int)) := by
  simp only [spec_l3Mul.f]
  refine (mul_spec 8 a b 0 ha hb (by decide) (by decide)).mono ?_
  rintro r rfl
  rw [Nat.zero_xor]; rfl
theorem inv_impl {a : Nat} (ha : a < 256) (d : Nat) : ∀ (i : Nat), i + d = 254 → EvP (fun k => impl_inverseGf.l0 k (a : Int) (gpow a i : Int) (i : Int)) (· = (ginv a : Int)) := by
  induction d with
  | zero =>
    intro i hi
    refine EvP.step (fun k => by rw [impl_inverseGf.l0]) ?_
    obtain rfl : i = 254 := by omega
    exact EvP.neg (by omega) (EvP.some rfl)
  | succ d ih =>
    intro i hi
    refine EvP.step (fun k => by rw [impl_inverseGf.l0]) ?_
    refine EvP.pos (by omega) (EvP.bind (mulGf_impl (gpow_lt ha i) ha) ?_)
    rintro r rfl
    rw [w64 (n := (i : Int) + 1) (by omega) (by omega), show ((i : Int) + 1) = ((i + 1 : Nat) : Int) by omega]
    exact ih (i + 1) (by omega)
theorem inverseGf_impl {a : Nat} (ha : a < 256) : EvP (fun k => impl_inverseGf.f k (a : Int)) (· = (ginv a : Int)) := by
  simp only [impl_inverseGf.f]
  exact inv_impl ha 254 0 (by omega)
theorem inv_spec (f : Nat) : ∀ (a o n : Nat), a < 256 → o < 256 → n < 2 ^ f → f ≤ 8 → EvP (fun k => spec_l3Inverse.l0 k (a : Int) (o : Int) (n : Int)) (· = (gsq f a o n : Int)) := by
  induction f with
  | zero =>
    intro a o n ha ho hn hf
    refine EvP.step (fun k => by rw [spec_l3Inverse.l0]) ?_
    exact EvP.neg (by omega) (EvP.some rfl)
  | succ f ih =>
    intro a o n ha ho hn hf
    refine EvP.step (fun k => by rw [spec_l3Inverse.l0]) ?_
    rw [gsq]
    refine EvP.ite (fun h0 => ?_) (fun h0 => EvP.some ?_)
    · rw [if_neg (show ¬ n = 0 by omega)]
      have hp : (2 : Nat) ^ (f + 1) ≤ 2 ^ 8 := Nat.pow_le_pow_right (by decide) hf
      have e : ((n : Int) / 2) = ((n / 2 : Nat) : Int) := by omega
      have e1 : Go.bits .and .i64 (n : Int) 1 = ((n % 2 : Nat) : Int) := by
        have := (bits_nat .i64 63 (by decide) (fun m h0 h1 => by rw [IntKind.wrap_i64]; simp only [Int.reducePow] at h1; omega) n 1 (by omega) (by decide)).1
        rw [show ((1 : Nat) : Int) = 1 from rfl] at this
        rw [this, Nat.and_one_is_mod]
      rw [e1, e]
      refine EvP.ite (fun h1 => ?_) (fun h1 => ?_)
      · rw [if_pos (show n % 2 = 1 by omega)]
        refine EvP.bind (mulGf_spec ho ha) ?_
        rintro r rfl
        refine EvP.bind (mulGf_spec ha ha) ?_
        rintro r rfl
        exact ih _ _ _ (gf_lt ha) (gf_lt ho) (by omega) (by omega)
      · rw [if_neg (show ¬ n % 2 = 1 by omega)]
        refine EvP.bind (mulGf_spec ha ha) ?_
        rintro r rfl
        exact ih _ _ _ (gf_lt ha) ho (by omega) (by omega)
    · rw [if_pos (show n = 0 by omega)]
theorem inverse_spec {a : Nat} (ha : a < 256) : EvP (fun k => spec_l3Inverse.f k (a : Int)) (· = (ginv a : Int)) := by
  simp only [spec_l3Inverse.f]
  have := inv_spec 8 a 1 254 ha (by decide) (by decide) (by decide)
  rwa [ginv_sq ha] at this
end Go.Proofs.Ytcggngmcaicdpaa.CFnGalois
