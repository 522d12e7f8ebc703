/- The program's and the reference's products, inverses and turns of bytes are those of the field. -/
import Derived.Test.YtkfpfcpmaejeoaaGreatQGf
import Derived.Test.YtkfpfcpmaejeoaaGreatGFnRetriedx0
import Derived.Test.YtkfpfcpmaejeoaaGreatGFnRetriedx1
set_option linter.unusedVariables false
set_option linter.unusedSimpArgs false
namespace Go.Proofs.YtkfpfcpmaejeoaaGreat.CFnRetried
open Go Go.Proofs Go.Proofs.YtkfpfcpmaejeoaaGreatPM Go.Proofs.YtkfpfcpmaejeoaaGreat.Q Go.Proofs.YtkfpfcpmaejeoaaGreat.GFnRetried

theorem odd_tab : ∀ b : Fin 256, (Go.bits .and .u8 ((b : Nat) : Int) 1 = 1 ↔ (b : Nat) % 2 = 1) := by decide +kernel
theorem half_tab : ∀ b : Fin 256, shrI .u8 ((b : Nat) : Int) 1 = (((b : Nat) / 2 : Nat) : Int) := by decide +kernel
theorem xt_tab : ∀ a : Fin 256, (Go.bits .and .u8 ((a : Nat) : Int) 128 = 0 → shlI .u8 ((a : Nat) : Int) 1 = (xt a : Int)) ∧ (¬ Go.bits .and .u8 ((a : Nat) : Int) 128 = 0 → Go.bits .xor .u8 (shlI .u8 ((a : Nat) : Int) 1) 27 = (xt a : Int)) := by decide +kernel

theorem mul_body {f : Nat → Int → Int → Int → Option ((Int × Unit) × Unit)} {n a b o : Nat} (ha : a < 256) (hb : b < 256) (ho : o < 256)
    (ih : ∀ a b' o : Nat, a < 256 → b' = b / 2 → o < 256 → EvP (fun k => f k (a : Int) (b' : Int) (o : Int)) (· = ((((o ^^^ gm n a b' : Nat) : Int), ()), ()))) :
    EvP (fun N => YtkfpfcpmaejeoaaGreatPM.andK (α := ((Int × Unit) × Unit)) (YtkfpfcpmaejeoaaGreatPM.sel (decide ((Go.bits .and .u8 (b : Int) 1) = 1)) (some ((((Go.bits .xor .u8 (o : Int) (a : Int)), ()), ()))) (some ((((o : Int), ()), ())))) fun j1 =>
      YtkfpfcpmaejeoaaGreatPM.andK (α := ((Int × Unit) × Unit)) (YtkfpfcpmaejeoaaGreatPM.sel (!(decide ((Go.bits .and .u8 (a : Int) 128) = 0))) (some ((((Go.bits .xor .u8 (shlI .u8 (a : Int) 1) 27), ()), ()))) (some ((((shlI .u8 (a : Int) 1), ()), ())))) fun j2 =>
      f N j2.1.1 (shrI .u8 (b : Int) 1) j1.1.1) (· = ((((o ^^^ gm (n + 1) a b : Nat) : Int), ()), ())) := by
  have ho' := odd_tab ⟨b, hb⟩
  have hx := xt_tab ⟨a, ha⟩
  have hh := half_tab ⟨b, hb⟩
  simp only at ho' hx hh
  rw [gm]
  refine EvP.to (a := ((((o ^^^ (if b % 2 = 1 then a else 0) : Nat) : Int), ()), ())) ?_ (EvP.to (a := (((xt a : Int), ()), ())) ?_ ?_)
  · refine EvP.ite (fun h1 => EvP.some ?_) (fun h1 => EvP.some ?_)
    · rw [if_pos (ho'.1 h1), xor_u8 ho ha]
    · rw [if_neg (fun q => h1 (ho'.2 q)), Nat.xor_zero]
  · refine EvP.nite (fun h1 => EvP.some ?_) (fun h1 => EvP.some ?_)
    · rw [hx.2 h1]
    · rw [hx.1 h1]
  · dsimp only
    rw [hh, ← Nat.xor_assoc]
    exact ih _ _ _ (xt_lt' ha) rfl (xor_lt ho (by split <;> omega))
theorem mul_impl (n : Nat) : ∀ (a b o : Nat), a < 256 → b < 2 ^ n → n ≤ 8 → o < 256 → EvP (fun k => impl_mulGf.l0 k (a : Int) (b : Int) (o : Int)) (· = ((((o ^^^ gm n a b : Nat) : Int), ()), ())) := by
  induction n with
  | zero =>
    intro a b o ha hb hn ho
    obtain rfl : b = 0 := by omega
    exact EvP.step (fun k => impl_mulGf.l0.eq k _ _ _) (EvP.nneg rfl (EvP.some (by simp [gm])))
  | succ n ih =>
    intro a b o ha hb hn ho
    have hp : (2 : Nat) ^ (n + 1) ≤ 2 ^ 8 := Nat.pow_le_pow_right (by decide) hn
    refine EvP.step (fun k => impl_mulGf.l0.eq k _ _ _) (EvP.nite (fun h0 => ?_) (fun h0 => EvP.some ?_))
    · exact mul_body ha (by omega) ho fun a b' o h1 h2 h3 => ih _ _ _ h1 (by omega) (by omega) h3
    · obtain rfl : b = 0 := by omega
      rw [gm_zero_right, Nat.xor_zero]
theorem mul_spec (n : Nat) : ∀ (a b o : Nat), a < 256 → b < 2 ^ n → n ≤ 8 → o < 256 → EvP (fun k => spec_l3Mul.l0 k (a : Int) (b : Int) (o : Int)) (· = ((((o ^^^ gm n a b : Nat) : Int), ()), ())) := by
  induction n with
  | zero =>
    intro a b o ha hb hn ho
    obtain rfl : b = 0 := by omega
    exact EvP.step (fun k => spec_l3Mul.l0.eq k _ _ _) (EvP.neg (by decide) (EvP.some (by simp [gm])))
  | succ n ih =>
    intro a b o ha hb hn ho
    have hp : (2 : Nat) ^ (n + 1) ≤ 2 ^ 8 := Nat.pow_le_pow_right (by decide) hn
    refine EvP.step (fun k => spec_l3Mul.l0.eq k _ _ _) (EvP.ite (fun h0 => ?_) (fun h0 => EvP.some ?_))
    · exact mul_body ha (by omega) ho fun a b' o h1 h2 h3 => ih _ _ _ h1 (by omega) (by omega) h3
    · obtain rfl : b = 0 := by omega
      rw [gm_zero_right, Nat.xor_zero]
theorem mulGf_impl {a b : Nat} (ha : a < 256) (hb : b < 256) : EvP (fun k => impl_mulGf k (a : Int) (b : Int)) (· = (((gf a b : Int), ()), ())) := by
  refine EvP.of (fun k => impl_mulGf.eq k _ _) (EvP.to (mul_impl 8 a b 0 ha hb (by decide) (by decide)) (EvP.some ?_))
  rw [Nat.zero_xor]; rfl
theorem mulGf_spec {a b : Nat} (ha : a < 256) (hb : b < 256) : EvP (fun k => spec_l3Mul k (a : Int) (b : Int)) (· = (((gf a b : Int), ()), ())) := by
  refine EvP.of (fun k => spec_l3Mul.eq k _ _) (EvP.to (mul_spec 8 a b 0 ha hb (by decide) (by decide)) (EvP.some ?_))
  rw [Nat.zero_xor]; rfl
end Go.Proofs.YtkfpfcpmaejeoaaGreat.CFnRetried
