/- General words used by the proofs of this seat: what eventually holds of functions with rounds, and bounds of words of 64 bits. -/
import Derived.Test.YtcngjidojibleaaWMore
set_option linter.unusedVariables false
set_option linter.unusedSimpArgs false
namespace Go.Proofs.Ytcngjidojibleaa.B
open Go.RowKit Go.Proofs.YtcngjidojibleaaW.PrintWords Go.Proofs.YtcngjidojibleaaW.PrintLast Go.Proofs.YtcngjidojibleaaW.PrintMore

/-! ### numbers -/
theorem w64 {n : Int} (h : -9223372036854775808 ≤ n) (h' : n ≤ 9223372036854775807) : wrap64 n = n := by unfold wrap64; omega
theorem u64w (n : Int) : IntKind.u64.wrap n = n % 18446744073709551616 := by simp [IntKind.wrap, IntKind.bits, IntKind.signed]
theorem u64w_id {n : Int} (h : 0 ≤ n) (h' : n < 18446744073709551616) : IntKind.u64.wrap n = n := by rw [u64w]; omega
theorem wrap64_range (n : Int) : -9223372036854775808 ≤ wrap64 n ∧ wrap64 n ≤ 9223372036854775807 := by unfold wrap64; omega
theorem and255_range (x : Int) : 0 ≤ Go.bits .and .u64 x 255 ∧ Go.bits .and .u64 x 255 ≤ 255 := by
  unfold Go.bits
  simp only
  rw [u64w]
  have h : (BitVec.ofInt IntKind.u64.bits x &&& BitVec.ofInt IntKind.u64.bits 255).toNat ≤ 255 := by
    rw [BitVec.toNat_and]
    exact Nat.le_trans Nat.and_le_right (by decide)
  omega

theorem conv255 (x : Int) : 0 ≤ wrap64 (Go.bits .and .u64 x 255) ∧ wrap64 (Go.bits .and .u64 x 255) ≤ 255 := by
  have h := and255_range x
  rw [w64 (by omega) (by omega)]
  exact h
theorem emod_le {a n : Int} (h : 0 ≤ a) (hn : 0 < n) : a % n ≤ a := by
  obtain ⟨x, rfl⟩ := Int.eq_ofNat_of_zero_le h
  obtain ⟨m, rfl⟩ := Int.eq_ofNat_of_zero_le (Int.le_of_lt hn)
  exact_mod_cast Nat.mod_le x m

theorem bits_xor_nat (k : IntKind) (j : Nat) (hj : j ≤ k.bits) (hk : ∀ n : Int, 0 ≤ n → n < 2 ^ j → k.wrap n = n) (a b : Nat) (ha : a < 2 ^ j) (hb : b < 2 ^ j) :
    Go.bits .xor k a b = ((a ^^^ b : Nat) : Int) := by
  have hp : 2 ^ j ≤ 2 ^ k.bits := Nat.pow_le_pow_right (by decide) hj
  have ha' : a % 2 ^ k.bits = a := Nat.mod_eq_of_lt (Nat.lt_of_lt_of_le ha hp)
  have hb' : b % 2 ^ k.bits = b := Nat.mod_eq_of_lt (Nat.lt_of_lt_of_le hb hp)
  simp only [Go.bits, BitVec.ofInt_natCast, BitVec.toNat_xor, BitVec.toNat_ofNat, ha', hb']
  exact hk _ (Int.natCast_nonneg _) (by exact_mod_cast Nat.xor_lt_two_pow ha hb)
theorem wraps_i64 (n : Int) (h0 : 0 ≤ n) (h1 : n < 2 ^ 63) : IntKind.i64.wrap n = n := by rw [IntKind.wrap_i64]; simp only [Int.reducePow] at h1; omega
theorem wraps_u64 (n : Int) (h0 : 0 ≤ n) (h1 : n < 2 ^ 64) : IntKind.u64.wrap n = n := by rw [u64w]; simp only [Int.reducePow] at h1; omega
theorem wraps_u32 (n : Int) (h0 : 0 ≤ n) (h1 : n < 2 ^ 32) : IntKind.u32.wrap n = n := by rw [IntKind.wrap_u32]; simp only [Int.reducePow] at h1; omega

/-! ### what comes out, and what holds of it -/
def Post {β : Type} (x : Option β) (P : β → Prop) : Prop := ∃ r, x = some r ∧ P r
theorem Post.some {β : Type} {P : β → Prop} {r : β} (h : P r) : Post (some r) P := ⟨r, rfl, h⟩
theorem Post.bind {α β : Type} {x : Option α} {f : α → Option β} {Q : α → Prop} {P : β → Prop} (h : Post x Q) (k : ∀ a, Q a → Post (f a) P) : Post (x.bind f) P := by
  obtain ⟨a, rfl, ha⟩ := h
  exact k a ha
theorem Post.ite {β : Type} {c : Prop} [Decidable c] {a b : Option β} {P : β → Prop} (h : c → Post a P) (k : ¬c → Post b P) : Post (if c then a else b) P := by
  by_cases hc : c
  · rw [if_pos hc]; exact h hc
  · rw [if_neg hc]; exact k hc
theorem Post.pos {β : Type} {c : Prop} [Decidable c] {a b : Option β} {P : β → Prop} (hc : c) (h : Post a P) : Post (if c then a else b) P := by rw [if_pos hc]; exact h
theorem Post.neg {β : Type} {c : Prop} [Decidable c] {a b : Option β} {P : β → Prop} (hc : ¬c) (h : Post b P) : Post (if c then a else b) P := by rw [if_neg hc]; exact h
theorem Post.mono {β : Type} {x : Option β} {P Q : β → Prop} (h : Post x P) (k : ∀ r, P r → Q r) : Post x Q := by
  obtain ⟨r, e, hr⟩ := h
  exact ⟨r, e, k r hr⟩

/-- With rounds enough it comes out, and this holds of it. -/
def EvP {β : Type} (g : Nat → Option β) (P : β → Prop) : Prop := ∃ r, Ev g r ∧ P r
theorem EvP.some {β : Type} {P : β → Prop} {r : β} (h : P r) : EvP (fun _ => some r) P := ⟨r, Ev.now r, h⟩
theorem EvP.of {β : Type} {x : Option β} {P : β → Prop} (h : Post x P) : EvP (fun _ => x) P := by
  obtain ⟨r, rfl, hr⟩ := h
  exact ⟨r, Ev.now r, hr⟩
theorem EvP.bind {α β : Type} {g : Nat → Option α} {f : Nat → α → Option β} {Q : α → Prop} {P : β → Prop} (h : EvP g Q) (k : ∀ a, Q a → EvP (fun n => f n a) P) : EvP (fun n => (g n).bind (f n)) P := by
  obtain ⟨a, ha, qa⟩ := h
  obtain ⟨r, hr, pr⟩ := k a qa
  exact ⟨r, Ev.bind ha hr, pr⟩
theorem EvP.bind0 {α β : Type} {x : Option α} {f : Nat → α → Option β} {Q : α → Prop} {P : β → Prop} (h : Post x Q) (k : ∀ a, Q a → EvP (fun n => f n a) P) : EvP (fun n => x.bind (f n)) P := by
  obtain ⟨a, rfl, qa⟩ := h
  exact k a qa
theorem EvP.ite {β : Type} {c : Prop} [Decidable c] {a b : Nat → Option β} {P : β → Prop} (h : c → EvP a P) (k : ¬c → EvP b P) : EvP (fun n => if c then a n else b n) P := by
  by_cases hc : c
  · simp only [if_pos hc]; exact h hc
  · simp only [if_neg hc]; exact k hc
theorem EvP.pos {β : Type} {c : Prop} [Decidable c] {a b : Nat → Option β} {P : β → Prop} (hc : c) (h : EvP a P) : EvP (fun n => if c then a n else b n) P := by simp only [if_pos hc]; exact h
theorem EvP.neg {β : Type} {c : Prop} [Decidable c] {a b : Nat → Option β} {P : β → Prop} (hc : ¬c) (h : EvP b P) : EvP (fun n => if c then a n else b n) P := by simp only [if_neg hc]; exact h
theorem EvP.step {β : Type} {g f : Nat → Option β} {P : β → Prop} (h : ∀ k, g (k + 1) = f k) (k : EvP f P) : EvP g P := by
  obtain ⟨r, hr, pr⟩ := k
  exact ⟨r, Ev.step h hr, pr⟩
theorem EvP.mono {β : Type} {g : Nat → Option β} {P Q : β → Prop} (h : EvP g P) (k : ∀ r, P r → Q r) : EvP g Q := by
  obtain ⟨r, e, hr⟩ := h
  exact ⟨r, e, k r hr⟩
theorem EvP.ev {β : Type} {g : Nat → Option β} {r : β} (h : EvP g (· = r)) : Ev g r := by
  obtain ⟨q, e, rfl⟩ := h
  exact e
theorem EvP.rounds {β : Type} {g : Nat → Option β} {r : β} (h : EvP g (· = r)) : ∃ k, g k = Option.some r := (EvP.ev h).rounds
theorem EvP.now {β : Type} {g : Nat → Option β} {r : β} (h : Ev g r) : EvP g (· = r) := ⟨r, h, rfl⟩
end Go.Proofs.Ytcngjidojibleaa.B
