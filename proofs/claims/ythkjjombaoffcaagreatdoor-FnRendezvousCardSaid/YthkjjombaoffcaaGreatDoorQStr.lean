/- Texts as rows of bytes: put together, cut, told apart. -/
import Derived.Test.YthkjjombaoffcaaGreatDoorQList
set_option linter.unusedVariables false
set_option linter.unusedSimpArgs false
namespace Go.Proofs.YthkjjombaoffcaaGreatDoor.Q
open Go Go.Proofs.YthkjjombaoffcaaGreatDoorPM

theorem Bytes.nil : Bytes [] := fun x hx => by cases hx
theorem Bytes.cons {x : Int} {l : List Int} (h : 0 ≤ x ∧ x ≤ 255) (hl : Bytes l) : Bytes (x :: l) := by
  intro y hy
  rcases List.mem_cons.1 hy with rfl | hy
  · exact h
  · exact hl y hy
theorem Bytes.append {l m : List Int} (h : Bytes l) (k : Bytes m) : Bytes (l ++ m) := by
  intro y hy
  rcases List.mem_append.1 hy with hy | hy
  · exact h y hy
  · exact k y hy
theorem Bytes.head {x : Int} {l : List Int} (h : Bytes (x :: l)) : 0 ≤ x ∧ x ≤ 255 := h x List.mem_cons_self
theorem Bytes.tail {x : Int} {l : List Int} (h : Bytes (x :: l)) : Bytes l := fun y hy => h y (List.mem_cons_of_mem _ hy)
theorem Bytes.drop {l : List Int} (h : Bytes l) (n : Nat) : Bytes (l.drop n) := fun y hy => h y (List.mem_of_mem_drop hy)
theorem Bytes.take {l : List Int} (h : Bytes l) (n : Nat) : Bytes (l.take n) := fun y hy => h y (List.mem_of_mem_take hy)
theorem Bytes.set {l : List Int} (h : Bytes l) (i : Nat) {x : Int} (hx : 0 ≤ x ∧ x ≤ 255) : Bytes (l.set i x) := fun y hy => by
  rcases List.mem_or_eq_of_mem_set hy with hy | rfl
  · exact h y hy
  · exact hx
theorem Bytes.zero (n : Nat) : Bytes (List.replicate n (0 : Int)) := fun x hx => by rw [List.eq_of_mem_replicate hx]; decide

theorem bytesL_append (s t : ByteArray) : bytesL (s ++ t) = bytesL s ++ bytesL t := by simp [bytesL]
theorem bytesL_nil : bytesL (⟨#[]⟩ : ByteArray) = [] := rfl
theorem bytesL_extract (s : ByteArray) (a b : Nat) : bytesL (s.extract a b) = ((bytesL s).take b).drop a := by
  simp [bytesL, ByteArray.data_extract, Array.toList_extract, List.extract_eq_take_drop]
  rw [List.take_drop]
  by_cases h : a ≤ b
  · rw [show a + (b - a) = b by omega]
  · rw [List.drop_eq_nil_of_le (by simp; omega), List.drop_eq_nil_of_le (by simp; omega)]
theorem bytesL_inj {s t : ByteArray} (h : bytesL s = bytesL t) : s = t := by rw [← strL_bytesL s, ← strL_bytesL t, h]
theorem strL_append (l m : List Int) : strL (l ++ m) = strL l ++ strL m := by
  apply ByteArray.ext
  simp [strL, ByteArray.data_append]
theorem strL_nil : strL [] = (⟨#[]⟩ : ByteArray) := rfl
theorem size_nil : (⟨#[]⟩ : ByteArray).size = 0 := rfl
theorem size_zero {s : ByteArray} (h : s.size = 0) : s = ⟨#[]⟩ := bytesL_inj (by rw [bytesL_nil]; exact List.eq_nil_of_length_eq_zero (by rw [bytesL_len]; exact h))
theorem eq_nil_iff (s : ByteArray) : s = (⟨#[]⟩ : ByteArray) ↔ s.size = 0 := ⟨fun h => by rw [h]; rfl, size_zero⟩
theorem app_nil (s : ByteArray) : s ++ (⟨#[]⟩ : ByteArray) = s := bytesL_inj (by rw [bytesL_append, bytesL_nil, List.append_nil])
theorem nil_app (s : ByteArray) : (⟨#[]⟩ : ByteArray) ++ s = s := bytesL_inj (by rw [bytesL_append, bytesL_nil, List.nil_append])
theorem app_assoc (s t u : ByteArray) : s ++ t ++ u = s ++ (t ++ u) := bytesL_inj (by simp only [bytesL_append, List.append_assoc])
theorem extract_all (s : ByteArray) : s.extract 0 s.size = s := bytesL_inj (by rw [bytesL_extract, List.drop_zero, List.take_of_length_le (by rw [bytesL_len]; exact Nat.le_refl _)])
theorem extract_size {s : ByteArray} {a b : Nat} (h : b ≤ s.size) : (s.extract a b).size = b - a := by rw [← bytesL_len, bytesL_extract, List.length_drop, List.length_take, bytesL_len, Nat.min_eq_left h]
theorem extract_app_left {s t : ByteArray} {a b : Nat} (h : b ≤ s.size) : (s ++ t).extract a b = s.extract a b := bytesL_inj (by
  rw [bytesL_extract, bytesL_extract, bytesL_append, List.take_append_of_le_length (by rw [bytesL_len]; exact h)])
theorem extract_app_right {s t : ByteArray} {b : Nat} (h : b = s.size + t.size) : (s ++ t).extract s.size b = t := bytesL_inj (by
  subst h
  rw [bytesL_extract, bytesL_append, List.take_of_length_le (by rw [List.length_append, bytesL_len, bytesL_len]; exact Nat.le_refl _), List.drop_left' (bytesL_len s)])
theorem extract_app_one {s t : ByteArray} {n : Nat} (h : n = s.size) : (s ++ t).extract 0 n = s := by subst h; rw [extract_app_left (Nat.le_refl _), extract_all]
theorem extract_app_two {s t : ByteArray} {n b : Nat} (h : n = s.size) (hb : b = s.size + t.size) : (s ++ t).extract n b = t := by subst h; exact extract_app_right hb
theorem byteAt_app_left {s t : ByteArray} {i : Nat} (h : i < s.size) : byteAt (s ++ t) i = byteAt s i := by
  unfold byteAt
  rw [bytesL_append, List.getD_eq_getElem?_getD, List.getD_eq_getElem?_getD, List.getElem?_append_left (by rw [bytesL_len]; exact h)]
theorem byteAt_app_right {s t : ByteArray} {i : Nat} (h : s.size ≤ i) : byteAt (s ++ t) i = byteAt t (i - s.size) := by
  unfold byteAt
  rw [bytesL_append, List.getD_eq_getElem?_getD, List.getD_eq_getElem?_getD, List.getElem?_append_right (by rw [bytesL_len]; exact h), bytesL_len]
theorem byteAt_extract {s : ByteArray} {a b i : Nat} (h : a + i < b) : byteAt (s.extract a b) i = byteAt s (a + i) := by
  unfold byteAt
  rw [bytesL_extract, List.getD_eq_getElem?_getD, List.getD_eq_getElem?_getD, List.getElem?_drop, List.getElem?_take, if_pos h]
/-- Texts of one length with the same bytes. -/
theorem str_ext {s t : ByteArray} (h : s.size = t.size) (hb : ∀ i, i < s.size → byteAt s i = byteAt t i) : s = t := bytesL_inj (by
  rw [bytesL_L, bytesL_L, ← h]; exact L_eq hb)
theorem strL_L {s : ByteArray} {n : Nat} (h : s.size = n) : s = strL (L n (byteAt s)) := by rw [← h, ← bytesL_L, strL_bytesL]
theorem byteAt_bytesL (s : ByteArray) (i : Nat) : (bytesL s).getD i 0 = ((byteAt s i : Nat) : Int) := by
  have := Bytes.getD (bytesL_byte s) i
  unfold byteAt
  omega
theorem byteAt_str {l : List Int} (h : Bytes l) (i : Nat) : ((byteAt (strL l) i : Nat) : Int) = l.getD i 0 := by rw [← byteAt_bytesL, bytesL_strL h]
end Go.Proofs.YthkjjombaoffcaaGreatDoor.Q
