/- General words used by the proofs of this seat: what eventually comes out of functions with rounds, and words of some bits. -/
import Derived.Test.YthkjjombaoffcaaGreatDoorPmLaw
set_option linter.unusedVariables false
set_option linter.unusedSimpArgs false
namespace Go.Proofs.YthkjjombaoffcaaGreatDoor.Q
open Go Go.Proofs.YthkjjombaoffcaaGreatDoorPM

/-! ### what comes out, with rounds enough, and what holds of it -/
def Ev {β : Type} (g : Nat → Option β) (r : β) : Prop := ∃ K, ∀ n, K ≤ n → g n = some r
def EvP {β : Type} (g : Nat → Option β) (P : β → Prop) : Prop := ∃ r, Ev g r ∧ P r
section
variable {α β γ : Type} {P : β → Prop}
theorem EvP.some {r : β} (h : P r) : EvP (fun _ => some r) P := ⟨r, ⟨0, fun _ _ => rfl⟩, h⟩
theorem EvP.mono {g : Nat → Option β} {Q : β → Prop} (h : EvP g Q) (k : ∀ r, Q r → P r) : EvP g P := by
  obtain ⟨r, e, hr⟩ := h
  exact ⟨r, e, k r hr⟩
theorem EvP.of {g f : Nat → Option β} (h : ∀ n, g n = f n) (k : EvP f P) : EvP g P := by
  obtain ⟨r, ⟨K, e⟩, hr⟩ := k
  exact ⟨r, ⟨K, fun n hn => (h n).trans (e n hn)⟩, hr⟩
theorem EvP.step {g f : Nat → Option β} (h : ∀ n, g (n + 1) = f n) (k : EvP f P) : EvP g P := by
  obtain ⟨r, ⟨K, e⟩, hr⟩ := k
  refine ⟨r, ⟨K + 1, fun n hn => ?_⟩, hr⟩
  obtain ⟨m, rfl⟩ : ∃ m, n = m + 1 := ⟨n - 1, by omega⟩
  rw [h]
  exact e m (by omega)
theorem EvP.andK {g : Nat → Option α} {f : Nat → α → Option β} {Q : α → Prop} (h : EvP g Q) (k : ∀ a, Q a → EvP (fun n => f n a) P) : EvP (fun n => YthkjjombaoffcaaGreatDoorPM.andK (g n) (f n)) P := by
  obtain ⟨a, ⟨K, e⟩, qa⟩ := h
  obtain ⟨r, ⟨L, e'⟩, pr⟩ := k a qa
  refine ⟨r, ⟨K + L, fun n hn => ?_⟩, pr⟩
  show YthkjjombaoffcaaGreatDoorPM.andK (g n) (f n) = _
  rw [e n (by omega)]
  exact e' n (by omega)
/-- What comes out is known. -/
theorem EvP.to {g : Nat → Option α} {f : Nat → α → Option β} {a : α} (h : EvP g (· = a)) (k : EvP (fun n => f n a) P) : EvP (fun n => YthkjjombaoffcaaGreatDoorPM.andK (g n) (f n)) P :=
  h.andK (by rintro _ rfl; exact k)
theorem EvP.sel {t : Bool} {a b : Nat → Option β} (h : t = true → EvP a P) (k : t = false → EvP b P) : EvP (fun n => YthkjjombaoffcaaGreatDoorPM.sel t (a n) (b n)) P := by
  cases t
  · exact k rfl
  · exact h rfl
theorem EvP.ite {c : Prop} [Decidable c] {a b : Nat → Option β} (h : c → EvP a P) (k : ¬c → EvP b P) : EvP (fun n => YthkjjombaoffcaaGreatDoorPM.sel (decide c) (a n) (b n)) P :=
  EvP.sel (fun e => h (of_decide_eq_true e)) (fun e => k (of_decide_eq_false e))
theorem EvP.nite {c : Prop} [Decidable c] {a b : Nat → Option β} (h : ¬c → EvP a P) (k : c → EvP b P) : EvP (fun n => YthkjjombaoffcaaGreatDoorPM.sel (!(decide c)) (a n) (b n)) P :=
  EvP.sel (fun e => h (by simpa using e)) (fun e => k (by simpa using e))
theorem EvP.yes {t : Bool} {a b : Nat → Option β} (e : t = true) (h : EvP a P) : EvP (fun n => YthkjjombaoffcaaGreatDoorPM.sel t (a n) (b n)) P := by subst e; exact h
theorem EvP.no {t : Bool} {a b : Nat → Option β} (e : t = false) (h : EvP b P) : EvP (fun n => YthkjjombaoffcaaGreatDoorPM.sel t (a n) (b n)) P := by subst e; exact h
theorem EvP.pos {c : Prop} [Decidable c] {a b : Nat → Option β} (e : c) (h : EvP a P) : EvP (fun n => YthkjjombaoffcaaGreatDoorPM.sel (decide c) (a n) (b n)) P := EvP.yes (decide_eq_true e) h
theorem EvP.neg {c : Prop} [Decidable c] {a b : Nat → Option β} (e : ¬c) (h : EvP b P) : EvP (fun n => YthkjjombaoffcaaGreatDoorPM.sel (decide c) (a n) (b n)) P := EvP.no (decide_eq_false e) h
theorem EvP.npos {c : Prop} [Decidable c] {a b : Nat → Option β} (e : ¬c) (h : EvP a P) : EvP (fun n => YthkjjombaoffcaaGreatDoorPM.sel (!(decide c)) (a n) (b n)) P := EvP.yes (by simp [e]) h
theorem EvP.nneg {c : Prop} [Decidable c] {a b : Nat → Option β} (e : c) (h : EvP b P) : EvP (fun n => YthkjjombaoffcaaGreatDoorPM.sel (!(decide c)) (a n) (b n)) P := EvP.no (by simp [e]) h
theorem EvP.chk {t : Bool} {a : Nat → Option β} (e : t = true) (h : EvP a P) : EvP (fun n => YthkjjombaoffcaaGreatDoorPM.chk t (a n)) P := by subst e; exact h
theorem EvP.chk1 {c : Prop} [Decidable c] {a : Nat → Option β} (e : c) (h : EvP a P) : EvP (fun n => YthkjjombaoffcaaGreatDoorPM.chk (decide c) (a n)) P := EvP.chk (decide_eq_true e) h
theorem EvP.chk2 {c d : Prop} [Decidable c] [Decidable d] {a : Nat → Option β} (e : c) (e' : d) (h : EvP a P) : EvP (fun n => YthkjjombaoffcaaGreatDoorPM.chk (decide c && decide d) (a n)) P := EvP.chk (by simp [e, e']) h
theorem EvP.chk3 {c d e : Prop} [Decidable c] [Decidable d] [Decidable e] {a : Nat → Option β} (h1 : c) (h2 : d) (h3 : e) (h : EvP a P) : EvP (fun n => YthkjjombaoffcaaGreatDoorPM.chk (decide c && (decide d && decide e)) (a n)) P := EvP.chk (by simp [h1, h2, h3]) h
theorem EvP.nz {x : Int} {a : Nat → Option β} (e : x ≠ 0) (h : EvP a P) : EvP (fun n => YthkjjombaoffcaaGreatDoorPM.chk (x != 0) (a n)) P := EvP.chk (by simp [e]) h
theorem EvP.inl {x : α} {f : Nat → α → Option β} {g : Nat → γ → Option β} (h : EvP (fun n => f n x) P) : EvP (fun n => YthkjjombaoffcaaGreatDoorPM.orK (.inl x) (f n) (g n)) P := h
theorem EvP.inr {x : γ} {f : Nat → α → Option β} {g : Nat → γ → Option β} (h : EvP (fun n => g n x) P) : EvP (fun n => YthkjjombaoffcaaGreatDoorPM.orK (.inr x) (f n) (g n)) P := h
theorem EvP.or {s : α ⊕ γ} {f : Nat → α → Option β} {g : Nat → γ → Option β} (h : ∀ x, s = .inl x → EvP (fun n => f n x) P) (k : ∀ x, s = .inr x → EvP (fun n => g n x) P) : EvP (fun n => YthkjjombaoffcaaGreatDoorPM.orK s (f n) (g n)) P := by
  cases s with
  | inl x => exact h x rfl
  | inr x => exact k x rfl
theorem EvP.fin {g : Nat → Option β} {r : β} (h : EvP g (· = r)) : ∃ N, g N = Option.some r := by
  obtain ⟨_, ⟨K, e⟩, rfl⟩ := h
  exact ⟨K, e K (Nat.le_refl _)⟩
theorem EvP.ev {g : Nat → Option β} {r : β} (h : EvP g (· = r)) : ∃ K, ∀ n, K ≤ n → g n = Option.some r := by
  obtain ⟨_, ⟨K, e⟩, rfl⟩ := h
  exact ⟨K, e⟩
theorem EvP.from {g : Nat → Option β} {r : β} (K : Nat) (h : ∀ n, K ≤ n → g n = Option.some r) (p : P r) : EvP g P := ⟨r, ⟨K, h⟩, p⟩
/-- A test's answer, told as another one. -/
theorem EvP.selb {t : Bool} {c : Prop} [Decidable c] {a b : Nat → Option β} (e : t = decide c) (h : c → EvP a P) (k : ¬c → EvP b P) : EvP (fun n => YthkjjombaoffcaaGreatDoorPM.sel t (a n) (b n)) P := by
  subst e
  exact EvP.ite h k
theorem EvP.selnb {t : Bool} {c : Prop} [Decidable c] {a b : Nat → Option β} (e : t = decide c) (h : ¬c → EvP a P) (k : c → EvP b P) : EvP (fun n => YthkjjombaoffcaaGreatDoorPM.sel (!t) (a n) (b n)) P := by
  subst e
  exact EvP.nite h k
theorem EvP.eq {g : Nat → Option β} {r s : β} (h : EvP g (· = r)) (e : r = s) : EvP g (· = s) := e ▸ h
theorem EvP.both {g : Nat → Option β} {Q : β → Prop} (h : EvP g P) (k : EvP g Q) : EvP g (fun r => P r ∧ Q r) := by
  obtain ⟨r, ⟨K, e⟩, hr⟩ := h
  obtain ⟨s, ⟨L, e'⟩, hs⟩ := k
  have h1 := e (K + L) (by omega)
  rw [e' (K + L) (by omega)] at h1
  obtain rfl : s = r := by injection h1
  exact ⟨s, ⟨K, e⟩, hr, hs⟩
end

theorem dec_eq {p q : Prop} {_ : Decidable p} {_ : Decidable q} (h : p → q) (k : q → p) : decide p = decide q := decide_eq_decide.2 ⟨h, k⟩

/-! ### numbers -/
theorem i64w {n : Int} (h : -9223372036854775808 ≤ n) (h' : n ≤ 9223372036854775807) : IntKind.i64.wrap n = n := by rw [IntKind.wrap_i64]; omega
theorem u64w (n : Int) : IntKind.u64.wrap n = n % 18446744073709551616 := by simp [IntKind.wrap, IntKind.bits, IntKind.signed]
theorem u64i {n : Int} (h : 0 ≤ n) (h' : n < 18446744073709551616) : IntKind.u64.wrap n = n := by rw [u64w]; omega
theorem u32w (n : Int) : IntKind.u32.wrap n = n % 4294967296 := by simp [IntKind.wrap, IntKind.bits, IntKind.signed]
theorem u32i {n : Int} (h : 0 ≤ n) (h' : n < 4294967296) : IntKind.u32.wrap n = n := by rw [u32w]; omega
theorem u8w (n : Int) : IntKind.u8.wrap n = n % 256 := by simp [IntKind.wrap, IntKind.bits, IntKind.signed]
theorem u8i {n : Int} (h : 0 ≤ n) (h' : n < 256) : IntKind.u8.wrap n = n := by rw [u8w]; omega
theorem i64_range (n : Int) : -9223372036854775808 ≤ IntKind.i64.wrap n ∧ IntKind.i64.wrap n ≤ 9223372036854775807 := by rw [IntKind.wrap_i64]; omega
theorem u64_range (n : Int) : 0 ≤ IntKind.u64.wrap n ∧ IntKind.u64.wrap n < 18446744073709551616 := by rw [u64w]; omega
theorem u8_range (n : Int) : 0 ≤ IntKind.u8.wrap n ∧ IntKind.u8.wrap n < 256 := by rw [u8w]; omega

theorem and255_range (x : Int) : 0 ≤ Go.bits .and .u64 x 255 ∧ Go.bits .and .u64 x 255 ≤ 255 := by
  unfold Go.bits
  simp only
  rw [u64w]
  have h : (BitVec.ofInt IntKind.u64.bits x &&& BitVec.ofInt IntKind.u64.bits 255).toNat ≤ 255 := by
    rw [BitVec.toNat_and]
    exact Nat.le_trans Nat.and_le_right (by decide)
  omega
theorem conv255 (x : Int) : 0 ≤ IntKind.i64.wrap (Go.bits .and .u64 x 255) ∧ IntKind.i64.wrap (Go.bits .and .u64 x 255) ≤ 255 := by
  have h := and255_range x
  rw [i64w (by omega) (by omega)]
  exact h
theorem emod_le {a n : Int} (h : 0 ≤ a) (hn : 0 < n) : a % n ≤ a := by
  obtain ⟨x, rfl⟩ := Int.eq_ofNat_of_zero_le h
  obtain ⟨m, rfl⟩ := Int.eq_ofNat_of_zero_le (Int.le_of_lt hn)
  exact_mod_cast Nat.mod_le x m

theorem bits_xor_nat (k : IntKind) (j : Nat) (hj : j ≤ k.bits) (hk : ∀ n : Int, 0 ≤ n → n < 2 ^ j → k.wrap n = n) (a b : Nat) (ha : a < 2 ^ j) (hb : b < 2 ^ j) :
    Go.bits .xor k a b = ((a ^^^ b : Nat) : Int) := by
  have hp : 2 ^ j ≤ 2 ^ k.bits := Nat.pow_le_pow_right (by decide) hj
  have ha' : a % 2 ^ k.bits = a := Nat.mod_eq_of_lt (Nat.lt_of_lt_of_le ha hp)
  have hb' : b % 2 ^ k.bits = b := Nat.mod_eq_of_lt (Nat.lt_of_lt_of_le hb hp)
  simp only [Go.bits, BitVec.ofInt_natCast, BitVec.toNat_xor, BitVec.toNat_ofNat, ha', hb']
  exact hk _ (Int.natCast_nonneg _) (by exact_mod_cast Nat.xor_lt_two_pow ha hb)
theorem wraps_i64 (n : Int) (h0 : 0 ≤ n) (h1 : n < 2 ^ 63) : IntKind.i64.wrap n = n := by rw [IntKind.wrap_i64]; simp only [Int.reducePow] at h1; omega
theorem wraps_u64 (n : Int) (h0 : 0 ≤ n) (h1 : n < 2 ^ 64) : IntKind.u64.wrap n = n := by rw [u64w]; simp only [Int.reducePow] at h1; omega
theorem wraps_u32 (n : Int) (h0 : 0 ≤ n) (h1 : n < 2 ^ 32) : IntKind.u32.wrap n = n := by rw [u32w]; simp only [Int.reducePow] at h1; omega
theorem wraps_u8 (n : Int) (h0 : 0 ≤ n) (h1 : n < 2 ^ 8) : IntKind.u8.wrap n = n := by rw [u8w]; simp only [Int.reducePow] at h1; omega
theorem xor_u8 {a b : Nat} (ha : a < 256) (hb : b < 256) : Go.bits .xor .u8 (a : Int) (b : Int) = ((a ^^^ b : Nat) : Int) := bits_xor_nat .u8 8 (by decide) wraps_u8 a b ha hb
theorem xor_i64 {a b : Nat} (ha : a < 256) (hb : b < 256) : Go.bits .xor .i64 (a : Int) (b : Int) = ((a ^^^ b : Nat) : Int) := bits_xor_nat .i64 63 (by decide) wraps_i64 a b (by omega) (by omega)

/-! ### bytes -/
def Bytes (l : List Int) : Prop := ∀ n ∈ l, 0 ≤ n ∧ n ≤ 255
theorem Bytes.getD {l : List Int} (h : Bytes l) (i : Nat) : 0 ≤ l.getD i 0 ∧ l.getD i 0 ≤ 255 := by
  rw [List.getD_eq_getElem?_getD]
  cases e : l[i]? with
  | none => simp
  | some x => exact h x (List.mem_of_getElem? e)
/-- The byte of a whole number. -/
def by8 (a : Int) : Nat := (a % 256).toNat
theorem by8_lt (a : Int) : by8 a < 256 := by unfold by8; omega
theorem by8_eq (a : Int) : IntKind.u8.wrap a = (by8 a : Int) := by rw [u8w]; unfold by8; omega
theorem by8_nat {n : Nat} (h : n < 256) : by8 (n : Int) = n := by unfold by8; omega
end Go.Proofs.YthkjjombaoffcaaGreatDoor.Q
