/- Rows of bytes told by their places; loops that count. -/
import Derived.Test.YthkjjombaoffcaaGreatDoorQGf
set_option linter.unusedVariables false
set_option linter.unusedSimpArgs false
namespace Go.Proofs.YthkjjombaoffcaaGreatDoor.Q
open Go Go.Proofs.YthkjjombaoffcaaGreatDoorPM

/-- A row told by its places. -/
def L (n : Nat) (f : Nat → Nat) : List Int := (List.range n).map fun i => ((f i : Nat) : Int)
theorem L_len (n : Nat) (f : Nat → Nat) : (L n f).length = n := by simp [L]
theorem L_get? {n : Nat} {f : Nat → Nat} {i : Nat} (h : i < n) : (L n f)[i]? = some ((f i : Nat) : Int) := by
  unfold L
  rw [List.getElem?_map, List.getElem?_range h]
  rfl
theorem L_at {n : Nat} {f : Nat → Nat} {i : Nat} (h : i < n) : (L n f).getD i 0 = ((f i : Nat) : Int) := by
  rw [List.getD_eq_getElem?_getD, L_get? h]; rfl
theorem L_eq {n : Nat} {f g : Nat → Nat} (h : ∀ i, i < n → f i = g i) : L n f = L n g := by
  unfold L
  apply List.map_congr_left
  intro i hi
  rw [h i (List.mem_range.1 hi)]
theorem L_inj {n : Nat} {f g : Nat → Nat} (h : L n f = L n g) : ∀ i, i < n → f i = g i := by
  intro i hi
  have h1 := L_at (f := f) hi
  rw [h, L_at hi] at h1
  omega
theorem L_ext {n : Nat} {f : Nat → Nat} {l : List Int} (hl : l.length = n) (h : ∀ i, i < n → l.getD i 0 = ((f i : Nat) : Int)) : l = L n f := by
  apply List.ext_getElem?
  intro i
  by_cases hi : i < n
  · rw [L_get? hi, ← h i hi, List.getD_eq_getElem?_getD, List.getElem?_eq_getElem (by omega)]; rfl
  · rw [List.getElem?_eq_none (by omega), List.getElem?_eq_none (by rw [L_len]; omega)]
theorem L_set {n : Nat} {f : Nat → Nat} {i x : Nat} : (L n f).set i ((x : Nat) : Int) = L n (fun j => if j = i then x else f j) := by
  apply List.ext_getElem?
  intro j
  rw [List.getElem?_set]
  by_cases e : i = j
  · subst e
    rw [if_pos rfl, L_len]
    by_cases hi : i < n
    · rw [if_pos hi, L_get? hi, if_pos rfl]
    · rw [if_neg hi, List.getElem?_eq_none (by rw [L_len]; omega)]
  · rw [if_neg e]
    by_cases hj : j < n
    · rw [L_get? hj, L_get? hj, if_neg (fun e' => e e'.symm)]
    · rw [List.getElem?_eq_none (by rw [L_len]; omega), List.getElem?_eq_none (by rw [L_len]; omega)]
theorem L_zero (n : Nat) : List.replicate n (0 : Int) = L n (fun _ => 0) := by
  apply L_ext (by simp)
  intro i hi
  simp [List.getD_eq_getElem?_getD, hi]
theorem L_append {n m : Nat} {f g : Nat → Nat} : L n f ++ L m g = L (n + m) (fun i => if i < n then f i else g (i - n)) := by
  apply List.ext_getElem?
  intro i
  by_cases hi : i < n
  · rw [List.getElem?_append_left (by rw [L_len]; exact hi), L_get? hi, L_get? (by omega), if_pos hi]
  · rw [List.getElem?_append_right (by rw [L_len]; omega), L_len]
    by_cases hm : i < n + m
    · rw [L_get? (by omega), L_get? hm, if_neg hi]
    · rw [List.getElem?_eq_none (by rw [L_len]; omega), List.getElem?_eq_none (by rw [L_len]; omega)]
theorem L_cut {n a k : Nat} {f : Nat → Nat} (h : a + k ≤ n) : ((L n f).drop a).take k = L k (fun i => f (a + i)) := by
  apply List.ext_getElem?
  intro i
  rw [List.getElem?_take]
  by_cases hi : i < k
  · rw [if_pos hi, List.getElem?_drop, L_get? hi, L_get? (by omega)]
  · rw [if_neg hi, List.getElem?_eq_none (by rw [L_len]; omega)]
theorem L_take {n k : Nat} {f : Nat → Nat} (h : k ≤ n) : (L n f).take k = L k f := by
  have := L_cut (f := f) (a := 0) (k := k) (n := n) (by omega)
  rw [List.drop_zero] at this
  rw [this]
  exact L_eq fun i _ => by rw [Nat.zero_add]
theorem L_drop {n k : Nat} {f : Nat → Nat} : (L n f).drop k = L (n - k) (fun i => f (k + i)) := by
  apply List.ext_getElem?
  intro i
  rw [List.getElem?_drop]
  by_cases hi : i < n - k
  · rw [L_get? hi, L_get? (by omega)]
  · rw [List.getElem?_eq_none (by rw [L_len]; omega), List.getElem?_eq_none (by rw [L_len]; omega)]
theorem L_one (x : Nat) : [((x : Nat) : Int)] = L 1 (fun _ => x) := rfl

/-! ### texts -/
theorem bytesL_len (s : ByteArray) : (bytesL s).length = s.size := by simp [bytesL]
/-- A text's bytes by their places. -/
def byteAt (s : ByteArray) (i : Nat) : Nat := ((bytesL s).getD i 0).toNat
theorem bytesL_byte (s : ByteArray) : ∀ x ∈ bytesL s, 0 ≤ x ∧ x ≤ 255 := by
  intro x hx
  unfold bytesL at hx
  obtain ⟨b, _, rfl⟩ := List.mem_map.1 hx
  have := b.toNat_lt
  constructor
  · exact Int.natCast_nonneg _
  · simp at this; omega
theorem bytesL_L (s : ByteArray) : bytesL s = L s.size (byteAt s) := by
  refine L_ext (bytesL_len s) fun i _ => ?_
  have := Bytes.getD (bytesL_byte s) i
  unfold byteAt
  omega
theorem byteAt_lt (s : ByteArray) (i : Nat) : byteAt s i < 256 := by
  have := Bytes.getD (bytesL_byte s) i
  unfold byteAt
  omega
theorem strL_bytesL (s : ByteArray) : strL (bytesL s) = s := by
  unfold strL bytesL
  cases s with
  | mk d =>
    congr 1
    apply Array.ext'
    simp only [List.map_map, List.toList_toArray]
    rw [show (((fun n : Int => UInt8.ofNat n.toNat) ∘ fun b : UInt8 => (b.toNat : Int)) = id) by funext b; simp]
    simp
theorem bytesL_strL {l : List Int} (h : Bytes l) : bytesL (strL l) = l := by
  unfold strL bytesL
  simp only [List.toList_toArray, List.map_map]
  conv => rhs; rw [← List.map_id l]
  apply List.map_congr_left
  intro x hx
  have := h x hx
  simp only [Function.comp, id]
  rw [UInt8.toNat_ofNat']
  omega
theorem Bytes_L {n : Nat} {f : Nat → Nat} (h : ∀ i, i < n → f i < 256) : Bytes (L n f) := by
  intro x hx
  unfold L at hx
  obtain ⟨i, hi, rfl⟩ := List.mem_map.1 hx
  have := h i (List.mem_range.1 hi)
  constructor <;> omega
theorem strL_size (l : List Int) : (strL l).size = l.length := by
  unfold strL
  simp [ByteArray.size]
theorem strL_inj {n : Nat} {f g : Nat → Nat} (hf : ∀ i, i < n → f i < 256) (hg : ∀ i, i < n → g i < 256) (h : strL (L n f) = strL (L n g)) : ∀ i, i < n → f i = g i := by
  have h2 := congrArg bytesL h
  rw [bytesL_strL (Bytes_L hf), bytesL_strL (Bytes_L hg)] at h2
  exact L_inj h2

/-! ### loops that count up -/
theorem EvP.count {α β : Type} {f : Nat → Int → α → Option β} {P : β → Prop} {n : Nat} {inv : Nat → α → Prop}
    (hs : ∀ i a, i < n → inv i a → (∀ a', inv (i + 1) a' → EvP (fun N => f N ((i + 1 : Nat) : Int) a') P) → EvP (fun N => f N (i : Int) a) P)
    (he : ∀ a, inv n a → EvP (fun N => f N (n : Int) a) P) : ∀ (i : Nat) (a : α), i ≤ n → inv i a → EvP (fun N => f N (i : Int) a) P := by
  intro i a hi
  obtain ⟨d, hd⟩ : ∃ d, i + d = n := ⟨n - i, by omega⟩
  clear hi
  induction d generalizing i a with
  | zero => intro h; obtain rfl : i = n := by omega
            exact he a h
  | succ d ih => exact fun h => hs i a (by omega) h fun a' h' => ih (i + 1) a' (by omega) h'
end Go.Proofs.YthkjjombaoffcaaGreatDoor.Q
