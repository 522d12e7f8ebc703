/- Steps of the drawing cursor, told for printed proofs; words for these. -/
import Derived.Test.YthkjjombaoffcaaGreatDoorQDrawFnRendezvous
import Derived.Test.YthkjjombaoffcaaGreatDoorQBe
set_option linter.unusedVariables false
set_option linter.unusedSimpArgs false
namespace Go.Proofs.YthkjjombaoffcaaGreatDoor.CFnRendezvous
open Go Go.Proofs Go.Proofs.YthkjjombaoffcaaGreatDoorPM Go.Proofs.YthkjjombaoffcaaGreatDoor.Q Go.Proofs.YthkjjombaoffcaaGreatDoor.GFnRendezvous

theorem and_i {a b : Bool} (h : a = true) (k : b = true) : (a && b) = true := by rw [h, k]; rfl
theorem ne_i {x : Int} (h : x ≠ 0) : (x != 0) = true := by simp [h]
theorem smallI_i {n : Int} (h : 0 ≤ n) (h' : n ≤ 68719476735) : smallI n = true := by
  cases n with
  | ofNat m => show Nat.blt m 68719476736 = true; rw [Nat.blt_eq]; have : ((m : Nat) : Int) ≤ 68719476735 := h'; omega
  | negSucc m => rfl
theorem tmod_f {x n : Int} (h : 0 ≤ x) (hn : 0 < n) : 0 ≤ Int.tmod x n ∧ Int.tmod x n < n ∧ Int.tmod x n ≤ x := by
  rw [Int.tmod_eq_emod_of_nonneg h]
  exact ⟨Int.emod_nonneg _ (by omega), Int.emod_lt_of_pos _ hn, emod_le h hn⟩
theorem tdiv_f {x n : Int} (h : 0 ≤ x) (hn : 0 < n) : Int.tdiv x n = x / n := Int.tdiv_eq_ediv_of_nonneg h
theorem wrap_range (k : IntKind) (n lo hi : Int) (h : ∀ m : Int, lo ≤ k.wrap m ∧ k.wrap m ≤ hi) : lo ≤ k.wrap n ∧ k.wrap n ≤ hi := h n
theorem u32_range (n : Int) : 0 ≤ IntKind.u32.wrap n ∧ IntKind.u32.wrap n < 4294967296 := by rw [u32w]; omega
/-- The bounds of a kind's numbers. -/
def kb (k : IntKind) : Int × Int := match k with
  | .i64 => (-9223372036854775808, 9223372036854775807)
  | .u64 => (0, 18446744073709551615)
  | .u32 => (0, 4294967295)
  | .u8 => (0, 255)
  | _ => (0, -1)
def kOk (k : IntKind) : Bool := match k with
  | .i64 | .u64 | .u32 | .u8 => true
  | _ => false
theorem wrap_kb {k : IntKind} (h : kOk k = true) (n : Int) : (kb k).1 ≤ k.wrap n ∧ k.wrap n ≤ (kb k).2 := by
  cases k <;> simp only [kOk] at h <;> first | cases h | skip
  · have := i64_range n; exact this
  · have := u8_range n; exact ⟨this.1, by have := this.2; show _ ≤ (255 : Int); omega⟩
  · have := u32_range n; exact ⟨this.1, by have := this.2; show _ ≤ (4294967295 : Int); omega⟩
  · have := u64_range n; exact ⟨this.1, by have := this.2; show _ ≤ (18446744073709551615 : Int); omega⟩
theorem shl_range (k : IntKind) (x y : Int) (h : kOk k = true) : (kb k).1 ≤ shlI k x y ∧ shlI k x y ≤ (kb k).2 := wrap_kb h _
theorem bits_range (o : BinOp) (k : IntKind) (x y : Int) (h : kOk k = true) : (kb k).1 ≤ Go.bits o k x y ∧ Go.bits o k x y ≤ (kb k).2 := by
  unfold Go.bits
  cases o <;> exact wrap_kb h _
theorem and1_f (k : IntKind) (x m : Int) (hk : kOk k = true) (h : 0 ≤ m) (hm : m ≤ (kb k).2) : 0 ≤ Go.bits .and k x m ∧ Go.bits .and k x m ≤ m := by
  obtain ⟨n, rfl⟩ := Int.eq_ofNat_of_zero_le h
  have e : Go.bits .and k x (n : Int) = k.wrap (((BitVec.ofInt k.bits x &&& BitVec.ofInt k.bits (n : Int)).toNat : Nat) : Int) := rfl
  have hn : (BitVec.ofInt k.bits x &&& BitVec.ofInt k.bits (n : Int)).toNat ≤ n := by
    rw [BitVec.toNat_and]
    refine Nat.le_trans Nat.and_le_right ?_
    rw [BitVec.ofInt_natCast, BitVec.toNat_ofNat]
    exact Nat.mod_le _ _
  rw [e]
  generalize (BitVec.ofInt k.bits x &&& BitVec.ofInt k.bits (n : Int)).toNat = y at hn
  have hw : k.wrap (y : Int) = y := by
    cases k <;> simp only [kOk] at hk <;> first | cases hk | skip
    · exact i64w (by omega) (by have : (n : Int) ≤ 9223372036854775807 := hm; omega)
    · exact u8i (by omega) (by have : (n : Int) ≤ 255 := hm; omega)
    · exact u32i (by omega) (by have : (n : Int) ≤ 4294967295 := hm; omega)
    · exact u64i (by omega) (by have : (n : Int) ≤ 18446744073709551615 := hm; omega)
  rw [hw]
  omega
theorem and0_f (k : IntKind) (x m : Int) (hk : kOk k = true) (h : 0 ≤ m) (hm : m ≤ (kb k).2) : 0 ≤ Go.bits .and k m x ∧ Go.bits .and k m x ≤ m := by
  have e : Go.bits .and k m x = Go.bits .and k x m := by
    show k.wrap (((BitVec.ofInt k.bits m &&& BitVec.ofInt k.bits x).toNat : Nat) : Int) = k.wrap (((BitVec.ofInt k.bits x &&& BitVec.ofInt k.bits m).toNat : Nat) : Int)
    rw [BitVec.and_comm]
  rw [e]
  exact and1_f k x m hk h hm
theorem shl_f (k : IntKind) {x : Int} (c : Nat) (p : Int) (hk : kOk k = true) (h0 : 0 ≤ x) (h1 : x * p ≤ (kb k).2) (hp : (2 : Int) ^ c = p) (hc : c ≤ k.bits) : shlI k x (c : Int) = x * p := by
  unfold shlI
  rw [Int.toNat_natCast, Nat.min_eq_left hc, hp]
  have hpp : 0 ≤ p := by rw [← hp]; exact Int.le_of_lt (Int.pow_pos (by decide))
  have h2 := Int.mul_nonneg h0 hpp
  generalize x * p = y at *
  cases k <;> simp only [kOk] at hk <;> first | cases hk | skip
  · exact i64w (by omega) (by have : y ≤ 9223372036854775807 := h1; omega)
  · exact u8i (by omega) (by have : y ≤ 255 := h1; omega)
  · exact u32i (by omega) (by have : y ≤ 4294967295 := h1; omega)
  · exact u64i (by omega) (by have : y ≤ 18446744073709551615 := h1; omega)
theorem shr_f (k : IntKind) {x : Int} (c : Nat) (p : Int) (hp : (2 : Int) ^ c = p) (hc : c ≤ k.bits) : shrI k x (c : Int) = x / p := by rw [shrI_pow hc, hp]
theorem extract_f (s : ByteArray) (a b : Nat) : (s.extract a b).size ≤ s.size ∧ (s.extract a b).size ≤ b ∧ (b ≤ s.size → (s.extract a b).size = b - a) := by
  have e : (s.extract a b).size = min b s.size - a := by rw [← bytesL_len, bytesL_extract, List.length_drop, List.length_take, bytesL_len]
  rw [e]
  omega
theorem cut_f {α : Type} (l : List α) (i j : Int) : (cut l i j).length = min j.toNat l.length - i.toNat := by unfold cut; rw [List.length_drop, List.length_take]
theorem mmin_f (a b : Int) : mmI false a b ≤ a ∧ mmI false a b ≤ b ∧ (mmI false a b = a ∨ mmI false a b = b) := by unfold mmI; dsimp only; split <;> omega
theorem mmax_f (a b : Int) : a ≤ mmI true a b ∧ b ≤ mmI true a b ∧ (mmI true a b = a ∨ mmI true a b = b) := by unfold mmI; dsimp only; split <;> omega
theorem all_nil {α : Type} {P : α → Prop} : ∀ y ∈ ([] : List α), P y := fun _ h => by cases h
theorem all_cons {α : Type} {P : α → Prop} {x : α} {l : List α} (h : P x) (k : ∀ y ∈ l, P y) : ∀ y ∈ x :: l, P y := fun y hy => by
  rcases List.mem_cons.1 hy with rfl | hy
  · exact h
  · exact k y hy
theorem all_app {α : Type} {P : α → Prop} {l m : List α} (h : ∀ y ∈ l, P y) (k : ∀ y ∈ m, P y) : ∀ y ∈ l ++ m, P y := fun y hy => by
  rcases List.mem_append.1 hy with hy | hy
  · exact h y hy
  · exact k y hy
theorem all_set {α : Type} {P : α → Prop} {l : List α} {i : Nat} {x : α} (h : ∀ y ∈ l, P y) (k : P x) : ∀ y ∈ l.set i x, P y := fun y hy => by
  rcases List.mem_or_eq_of_mem_set hy with hy | rfl
  · exact h y hy
  · exact k
theorem all_take {α : Type} {P : α → Prop} {l : List α} {n : Nat} (h : ∀ y ∈ l, P y) : ∀ y ∈ l.take n, P y := fun y hy => h y (List.mem_of_mem_take hy)
theorem all_drop {α : Type} {P : α → Prop} {l : List α} {n : Nat} (h : ∀ y ∈ l, P y) : ∀ y ∈ l.drop n, P y := fun y hy => h y (List.mem_of_mem_drop hy)
theorem all_cut {α : Type} {P : α → Prop} {l : List α} {i j : Int} (h : ∀ y ∈ l, P y) : ∀ y ∈ cut l i j, P y := fun y hy => h y (List.mem_of_mem_take (List.mem_of_mem_drop hy))
theorem all_rep {α : Type} {P : α → Prop} {n : Nat} {x : α} (h : P x) : ∀ y ∈ List.replicate n x, P y := fun y hy => by rw [List.eq_of_mem_replicate hy]; exact h
theorem getD_all {α : Type} {P : α → Prop} {l : List α} {d : α} (h : ∀ y ∈ l, P y) (i : Nat) (k : P d) : P (l.getD i d) := by
  rw [List.getD_eq_getElem?_getD]
  cases e : l[i]? with
  | none => exact k
  | some x => exact h x (List.mem_of_getElem? e)
theorem rdS_all (r : Sh) {P : r.den → Prop} {l : List r.den} (h : ∀ y ∈ l, P y) (i : Nat) (k : P r.dflt) : P (rdS r l i) := getD_all h i k

section
variable {l : List Int} {a s b : Int}
theorem next_s (hl : Bytes l) (h0 : 0 ≤ a) (h1 : a ≤ b) (hb : b ≤ 4611686018427000000) :
    EvP (fun N => spec_l1Cur_next N l a s) (fun r => 0 ≤ r.1.1 ∧ r.1.1 ≤ 255 ∧ (∀ y ∈ r.2.1.1, 0 ≤ y ∧ y ≤ 255) ∧ 0 ≤ r.2.1.2.1 ∧ r.2.1.2.1 ≤ b + 1 ∧ True) :=
  (next_ok hl a s h0 (by omega)).mono fun r h => ⟨h.1.1, h.1.2, by rw [h.2.1]; exact hl, by have := h.2.2; omega, by have := h.2.2; omega, trivial⟩
theorem pick_s {n m : Int} (hl : Bytes l) (h0 : 0 ≤ a) (h1 : a ≤ b) (hb : b ≤ 4611686018427000000) (hn : n ≤ m + 1) (hm : 0 ≤ m) :
    EvP (fun N => spec_l1Cur_pick N n l a s) (fun r => (0 ≤ r.1.1 ∧ r.1.1 ≤ m ∧ (1 ≤ n → r.1.1 < n) ∧ (n ≤ 1 → r.1.1 = 0)) ∧ (∀ y ∈ r.2.1.1, 0 ≤ y ∧ y ≤ 255) ∧ 0 ≤ r.2.1.2.1 ∧ r.2.1.2.1 ≤ b + 2 ∧ True) :=
  (pick_ok hl n a s h0 (by omega)).mono fun r h => by
    obtain ⟨⟨p1, _, p2, p3⟩, q1, q2, q3⟩ := h
    refine ⟨⟨p1, ?_, p2, p3⟩, by rw [q1]; exact hl, by omega, by omega, trivial⟩
    by_cases h : 1 ≤ n
    · have := p2 h; omega
    · have := p3 (by omega); omega
theorem one_s {n : Int} (hl : Bytes l) (h0 : 0 ≤ a) (h1 : a ≤ b) (hb : b ≤ 4611686018427000000) :
    EvP (fun N => spec_l1Cur_one N n l a s) (fun r => (∀ y ∈ r.2.1.1, 0 ≤ y ∧ y ≤ 255) ∧ 0 ≤ r.2.1.2.1 ∧ r.2.1.2.1 ≤ b + 2 ∧ True) :=
  (one_ok hl n a s h0 (by omega)).mono fun r h => by
    obtain ⟨q1, q2, q3⟩ := h
    exact ⟨by rw [q1]; exact hl, by omega, by omega, trivial⟩
theorem sized_s {n m : Int} (hl : Bytes l) (h0 : 0 ≤ n) (h1 : n ≤ m) (hm : m ≤ 1000000) (a0 : 0 ≤ a) (a1 : a ≤ b) (hb : b ≤ 4611686018424000000) :
    EvP (fun N => spec_l1Cur_sizedBytes N n l a s) (fun r => (∀ y ∈ r.2.1.1, 0 ≤ y ∧ y ≤ 255) ∧ 0 ≤ r.2.1.2.1 ∧ r.2.1.2.1 ≤ b + 2 * m ∧ (r.2.2.1.length : Int) ≤ m ∧ (∀ y ∈ r.2.2.1, 0 ≤ y ∧ y ≤ 255) ∧ True) :=
  (sized_ok hl n a s h0 (by omega) a0 (by omega)).mono fun r h => by
    obtain ⟨⟨q1, q2, q3⟩, q4, q5⟩ := h
    dsimp only at q1 q2 q3
    exact ⟨by rw [q1]; exact hl, by omega, by omega, by omega, q4, trivial⟩
end
end Go.Proofs.YthkjjombaoffcaaGreatDoor.CFnRendezvous
