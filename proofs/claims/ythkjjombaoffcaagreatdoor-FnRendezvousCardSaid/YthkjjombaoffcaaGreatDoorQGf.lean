/- The field of 256, as numbers: products go with xor, do not hang on order and brackets. -/
import Derived.Test.YthkjjombaoffcaaGreatDoorQBase
set_option linter.unusedVariables false
set_option linter.unusedSimpArgs false
namespace Go.Proofs.YthkjjombaoffcaaGreatDoor.Q
open Go

theorem xlc (a b c : Nat) : a ^^^ (b ^^^ c) = b ^^^ (a ^^^ c) := by rw [← Nat.xor_assoc, Nat.xor_comm a b, Nat.xor_assoc]
theorem xcc (a b : Nat) : a ^^^ (a ^^^ b) = b := by rw [← Nat.xor_assoc, Nat.xor_self, Nat.zero_xor]
/-- A byte times x. -/
def xt (a : Nat) : Nat := (a <<< 1) ^^^ (if a.testBit 7 then 283 else 0)
theorem xt_xor (a b : Nat) : xt (a ^^^ b) = xt a ^^^ xt b := by
  unfold xt
  rw [Nat.shiftLeft_xor_distrib, Nat.testBit_xor]
  cases a.testBit 7 <;> cases b.testBit 7 <;> simp [Nat.xor_assoc, xlc, xcc, Nat.xor_comm]
theorem xt_zero : xt 0 = 0 := by decide
theorem xt_lt : ∀ a : Fin 256, xt a < 256 := by decide +kernel
theorem xt_lt' {a : Nat} (h : a < 256) : xt a < 256 := xt_lt ⟨a, h⟩
theorem xor_lt {a b : Nat} (h : a < 256) (k : b < 256) : a ^^^ b < 256 := Nat.xor_lt_two_pow (n := 8) h k
/-- A product, by the lowest n bits of b. -/
def gm : Nat → Nat → Nat → Nat
  | 0, _, _ => 0
  | n + 1, a, b => (if b % 2 = 1 then a else 0) ^^^ gm n (xt a) (b / 2)
theorem gm_zero_right (n : Nat) : ∀ a, gm n a 0 = 0 := by
  induction n with
  | zero => intro a; rfl
  | succ n ih => intro a; simp [gm, ih]
theorem gm_lt (n : Nat) : ∀ a b, a < 256 → gm n a b < 256 := by
  induction n with
  | zero => intro a b _; simp [gm]
  | succ n ih =>
    intro a b h
    rw [gm]
    refine xor_lt ?_ (ih _ _ (xt_lt' h))
    split <;> omega
theorem gm_left (n : Nat) : ∀ a a' b, gm n (a ^^^ a') b = gm n a b ^^^ gm n a' b := by
  induction n with
  | zero => intro a a' b; simp [gm]
  | succ n ih =>
    intro a a' b
    simp only [gm]
    rw [xt_xor, ih]
    split <;> simp [Nat.xor_assoc, xlc, xcc]
theorem xor_half (a b : Nat) : (a ^^^ b) / 2 = a / 2 ^^^ b / 2 := by
  have := Nat.shiftRight_xor_distrib (a := a) (b := b) (i := 1)
  simpa [Nat.shiftRight_succ] using this
theorem xor_odd (a b : Nat) : (a ^^^ b) % 2 = a % 2 ^^^ b % 2 := by
  have := Nat.xor_mod_two_pow (a := a) (b := b) (n := 1)
  simpa using this
theorem gm_right (n : Nat) : ∀ a b c, gm n a (b ^^^ c) = gm n a b ^^^ gm n a c := by
  induction n with
  | zero => intro a b c; simp [gm]
  | succ n ih =>
    intro a b c
    simp only [gm]
    rw [xor_half, xor_odd, ih]
    rcases Nat.mod_two_eq_zero_or_one b with hb | hb <;> rcases Nat.mod_two_eq_zero_or_one c with hc | hc <;> simp [hb, hc, Nat.xor_assoc, xlc, xcc]
theorem gm_xt (n : Nat) : ∀ a b, gm n (xt a) b = xt (gm n a b) := by
  induction n with
  | zero => intro a b; simp [gm, xt_zero]
  | succ n ih =>
    intro a b
    simp only [gm]
    rw [xt_xor, ih]
    split <;> simp [xt_zero]
/-- The product of two bytes. -/
def gf (a b : Nat) : Nat := gm 8 a b
theorem gf_lt {a b : Nat} (h : a < 256) : gf a b < 256 := gm_lt 8 a b h
theorem gf_left (a a' b : Nat) : gf (a ^^^ a') b = gf a b ^^^ gf a' b := gm_left 8 a a' b
theorem gf_right (a b c : Nat) : gf a (b ^^^ c) = gf a b ^^^ gf a c := gm_right 8 a b c
theorem gf_xt (a b : Nat) : gf (xt a) b = xt (gf a b) := gm_xt 8 a b
theorem gf_zero_right (a : Nat) : gf a 0 = 0 := gm_zero_right 8 a
theorem gf_zero_left (b : Nat) : gf 0 b = 0 := by have := gf_left 0 0 b; simpa using this
theorem one_gf : ∀ a : Fin 256, gf 1 a = a := by decide +kernel
theorem bits_of : ∀ a : Fin 256, (a : Nat) = (if (a : Nat).testBit 0 then 1 else 0) ^^^ ((if (a : Nat).testBit 1 then 2 else 0) ^^^ ((if (a : Nat).testBit 2 then 4 else 0) ^^^ ((if (a : Nat).testBit 3 then 8 else 0) ^^^
    ((if (a : Nat).testBit 4 then 16 else 0) ^^^ ((if (a : Nat).testBit 5 then 32 else 0) ^^^ ((if (a : Nat).testBit 6 then 64 else 0) ^^^ (if (a : Nat).testBit 7 then 128 else 0))))))) := by decide +kernel
/-- Two functions that go with xor are one on bytes, if they are one on the eight bits. -/
theorem lin_ext (f h : Nat → Nat) (hf : ∀ x y, f (x ^^^ y) = f x ^^^ f y) (hh : ∀ x y, h (x ^^^ y) = h x ^^^ h y)
    (e0 : f 1 = h 1) (e1 : f 2 = h 2) (e2 : f 4 = h 4) (e3 : f 8 = h 8) (e4 : f 16 = h 16) (e5 : f 32 = h 32) (e6 : f 64 = h 64) (e7 : f 128 = h 128) {a : Nat} (ha : a < 256) : f a = h a := by
  have f0 : f 0 = 0 := by have := hf 0 0; simpa using this
  have h0 : h 0 = 0 := by have := hh 0 0; simpa using this
  have hb := bits_of ⟨a, ha⟩
  simp only at hb
  have hi : ∀ (c : Bool) (n : Nat), f n = h n → f (if c then n else 0) = h (if c then n else 0) := by
    intro c n e
    cases c <;> simp [e, f0, h0]
  rw [hb]
  simp only [hf, hh]
  rw [hi _ _ e0, hi _ _ e1, hi _ _ e2, hi _ _ e3, hi _ _ e4, hi _ _ e5, hi _ _ e6, hi _ _ e7]
theorem gf_pow0 (a : Nat) : gf a 1 = a := by simp [gf, gm]
theorem gf_pow1 (a : Nat) : gf a 2 = xt a := by simp [gf, gm]
theorem gf_pow2 (a : Nat) : gf a 4 = xt (xt a) := by simp [gf, gm]
theorem gf_pow3 (a : Nat) : gf a 8 = xt (xt (xt a)) := by simp [gf, gm]
theorem gf_pow4 (a : Nat) : gf a 16 = xt (xt (xt (xt a))) := by simp [gf, gm]
theorem gf_pow5 (a : Nat) : gf a 32 = xt (xt (xt (xt (xt a)))) := by simp [gf, gm]
theorem gf_pow6 (a : Nat) : gf a 64 = xt (xt (xt (xt (xt (xt a))))) := by simp [gf, gm]
theorem gf_pow7 (a : Nat) : gf a 128 = xt (xt (xt (xt (xt (xt (xt a)))))) := by simp [gf, gm]
theorem gf_comm {a b : Nat} (ha : a < 256) (hb : b < 256) : gf a b = gf b a := by
  have e1 : gf 1 a = a := one_gf ⟨a, ha⟩
  have p1 : gf 2 a = xt a := by rw [show (2 : Nat) = xt 1 by decide, gf_xt, e1]
  have p2 : gf 4 a = xt (xt a) := by rw [show (4 : Nat) = xt 2 by decide, gf_xt, p1]
  have p3 : gf 8 a = xt (xt (xt a)) := by rw [show (8 : Nat) = xt 4 by decide, gf_xt, p2]
  have p4 : gf 16 a = xt (xt (xt (xt a))) := by rw [show (16 : Nat) = xt 8 by decide, gf_xt, p3]
  have p5 : gf 32 a = xt (xt (xt (xt (xt a)))) := by rw [show (32 : Nat) = xt 16 by decide, gf_xt, p4]
  have p6 : gf 64 a = xt (xt (xt (xt (xt (xt a))))) := by rw [show (64 : Nat) = xt 32 by decide, gf_xt, p5]
  have p7 : gf 128 a = xt (xt (xt (xt (xt (xt (xt a)))))) := by rw [show (128 : Nat) = xt 64 by decide, gf_xt, p6]
  exact lin_ext (fun x => gf a x) (fun x => gf x a) (fun x y => gf_right a x y) (fun x y => gf_left x y a)
    (by rw [gf_pow0, e1]) (by rw [gf_pow1, p1]) (by rw [gf_pow2, p2]) (by rw [gf_pow3, p3]) (by rw [gf_pow4, p4]) (by rw [gf_pow5, p5]) (by rw [gf_pow6, p6]) (by rw [gf_pow7, p7]) hb
theorem gf_xt_right {a b : Nat} (ha : a < 256) (hb : b < 256) : gf a (xt b) = xt (gf a b) := by rw [gf_comm ha (xt_lt' hb), gf_xt, gf_comm hb ha]
theorem gf_assoc {a b c : Nat} (ha : a < 256) (hb : b < 256) (hc : c < 256) : gf (gf a b) c = gf a (gf b c) := by
  have b1 := xt_lt' hb; have b2 := xt_lt' b1; have b3 := xt_lt' b2; have b4 := xt_lt' b3; have b5 := xt_lt' b4; have b6 := xt_lt' b5
  exact lin_ext (fun x => gf (gf a b) x) (fun x => gf a (gf b x)) (fun x y => gf_right _ x y) (fun x y => by rw [gf_right, gf_right])
    (by rw [gf_pow0, gf_pow0])
    (by rw [gf_pow1, gf_pow1, gf_xt_right ha hb])
    (by rw [gf_pow2, gf_pow2, gf_xt_right ha b1, gf_xt_right ha hb])
    (by rw [gf_pow3, gf_pow3, gf_xt_right ha b2, gf_xt_right ha b1, gf_xt_right ha hb])
    (by rw [gf_pow4, gf_pow4, gf_xt_right ha b3, gf_xt_right ha b2, gf_xt_right ha b1, gf_xt_right ha hb])
    (by rw [gf_pow5, gf_pow5, gf_xt_right ha b4, gf_xt_right ha b3, gf_xt_right ha b2, gf_xt_right ha b1, gf_xt_right ha hb])
    (by rw [gf_pow6, gf_pow6, gf_xt_right ha b5, gf_xt_right ha b4, gf_xt_right ha b3, gf_xt_right ha b2, gf_xt_right ha b1, gf_xt_right ha hb])
    (by rw [gf_pow7, gf_pow7, gf_xt_right ha b6, gf_xt_right ha b5, gf_xt_right ha b4, gf_xt_right ha b3, gf_xt_right ha b2, gf_xt_right ha b1, gf_xt_right ha hb])
    hc

/-- A byte to a power. -/
def gpow (a : Nat) : Nat → Nat
  | 0 => 1
  | n + 1 => gf (gpow a n) a
def ginv (a : Nat) : Nat := gpow a 254
/-- By squares. -/
def gsq : Nat → Nat → Nat → Nat → Nat
  | 0, _, out, _ => out
  | f + 1, a, out, n => if n = 0 then out else gsq f (gf a a) (if n % 2 = 1 then gf out a else out) (n / 2)
theorem gpow_lt {a : Nat} (ha : a < 256) : ∀ n, gpow a n < 256
  | 0 => by simp [gpow]
  | n + 1 => gf_lt (gpow_lt ha n)
theorem gpow_add {a : Nat} (ha : a < 256) (m : Nat) : ∀ n, gpow a (m + n) = gf (gpow a m) (gpow a n)
  | 0 => by simp [gpow, gf_pow0]
  | n + 1 => by rw [← Nat.add_assoc, gpow, gpow, gpow_add ha m n, gf_assoc (gpow_lt ha m) (gpow_lt ha n) ha]
theorem gpow_sq {a : Nat} (ha : a < 256) : ∀ n, gpow (gf a a) n = gpow a (2 * n)
  | 0 => rfl
  | n + 1 => by
    have e : gpow a 2 = gf a a := by
      have e1 : gf 1 a = a := one_gf ⟨a, ha⟩
      show gf (gf 1 a) a = gf a a
      rw [e1]
    rw [gpow, gpow_sq ha n, show 2 * (n + 1) = 2 * n + 2 by omega, gpow_add ha (2 * n) 2, e]
theorem gsq_eq (f : Nat) : ∀ a out n, a < 256 → out < 256 → n < 2 ^ f → gsq f a out n = gf out (gpow a n) := by
  induction f with
  | zero =>
    intro a out n _ _ hn
    obtain rfl : n = 0 := by omega
    simp [gsq, gpow, gf_pow0]
  | succ f ih =>
    intro a out n ha ho hn
    rw [gsq]
    by_cases h : n = 0
    · subst h; simp [gpow, gf_pow0]
    · rw [if_neg h, ih _ _ _ (gf_lt ha) (by split; exact gf_lt ho; exact ho) (by omega), gpow_sq ha]
      have e1 : gf 1 a = a := one_gf ⟨a, ha⟩
      have hp := gpow_lt ha (2 * (n / 2))
      split
      · rename_i h1
        rw [gf_assoc ho ha hp, ← show gpow a (1 + 2 * (n / 2)) = gf a (gpow a (2 * (n / 2))) by rw [gpow_add ha 1]; congr 1, show 1 + 2 * (n / 2) = n by omega]
      · rename_i h1
        rw [show 2 * (n / 2) = n by omega]
theorem ginv_sq {a : Nat} (ha : a < 256) : gsq 8 a 1 254 = ginv a := by
  rw [gsq_eq 8 a 1 254 ha (by decide) (by decide)]
  exact one_gf ⟨gpow a 254, gpow_lt ha 254⟩
theorem ginv_lt {a : Nat} (ha : a < 256) : ginv a < 256 := gpow_lt ha 254
theorem ginv_tab : ∀ a : Fin 256, (gf a (gsq 8 a 1 254) = 1 ↔ (a : Nat) ≠ 0) := by decide +kernel
theorem ginv_one {a : Nat} (ha : a < 256) : gf a (ginv a) = 1 ↔ a ≠ 0 := by
  rw [← ginv_sq ha]
  exact ginv_tab ⟨a, ha⟩
end Go.Proofs.YthkjjombaoffcaaGreatDoor.Q
