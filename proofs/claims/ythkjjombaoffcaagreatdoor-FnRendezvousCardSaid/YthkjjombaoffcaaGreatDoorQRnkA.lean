/- Ranks: stable insertion by falling scores; the order of texts. -/
import Derived.Test.YthkjjombaoffcaaGreatDoorQStr
set_option linter.unusedVariables false
set_option linter.unusedSimpArgs false
namespace Go.Proofs.YthkjjombaoffcaaGreatDoor.Q
open Go Go.Proofs Go.Proofs.YthkjjombaoffcaaGreatDoorPM

section
variable {α : Type} (f : α → Int)
def ins (x : α) : List α → List α
  | [] => [x]
  | y :: l => if f x ≤ f y then y :: ins x l else x :: y :: l
theorem ins_split {x : α} : ∀ {A B : List α}, (∀ a ∈ A, f x ≤ f a) → (∀ b ∈ B, f b < f x) → ins f x (A ++ B) = A ++ x :: B
  | [], [], _, _ => rfl
  | [], b :: B, _, hB => by
    have := hB b List.mem_cons_self
    show ins f x (b :: B) = _
    rw [ins, if_neg (by omega)]
    rfl
  | a :: A, B, hA, hB => by
    have := hA a List.mem_cons_self
    show ins f x (a :: (A ++ B)) = _
    rw [ins, if_pos this, ins_split (fun y hy => hA y (List.mem_cons_of_mem _ hy)) hB]
    rfl
def Fall (l : List α) : Prop := l.Pairwise fun a b => f b ≤ f a
theorem ins_ex (x : α) : ∀ {l : List α}, Fall f l → ∃ A B, l = A ++ B ∧ (∀ a ∈ A, f x ≤ f a) ∧ (∀ b ∈ B, f b < f x)
  | [], _ => ⟨[], [], rfl, (fun _ h => by cases h), (fun _ h => by cases h)⟩
  | y :: l, h => by
    obtain ⟨h1, h2⟩ := List.pairwise_cons.1 h
    by_cases hy : f x ≤ f y
    · obtain ⟨A, B, rfl, hA, hB⟩ := ins_ex x (l := l) h2
      refine ⟨y :: A, B, rfl, fun a ha => ?_, hB⟩
      rcases List.mem_cons.1 ha with rfl | ha
      · exact hy
      · exact hA a ha
    · refine ⟨[], y :: l, rfl, (fun _ h => by cases h), fun b hb => ?_⟩
      rcases List.mem_cons.1 hb with rfl | hb
      · omega
      · have := h1 b hb
        omega
theorem ins_perm (x : α) : ∀ l : List α, (ins f x l).Perm (x :: l)
  | [] => List.Perm.refl _
  | y :: l => by
    rw [ins]
    split
    · exact ((ins_perm x l).cons y).trans (List.Perm.swap x y l)
    · exact List.Perm.refl _
theorem ins_fall {x : α} {l : List α} (h : Fall f l) : Fall f (ins f x l) := by
  obtain ⟨A, B, rfl, hA, hB⟩ := ins_ex f x h
  rw [ins_split f hA hB]
  obtain ⟨h1, h2, h3⟩ := List.pairwise_append.1 h
  refine List.pairwise_append.2 ⟨h1, List.pairwise_cons.2 ⟨fun b hb => Int.le_of_lt (hB b hb), h2⟩, fun a ha b hb => ?_⟩
  rcases List.mem_cons.1 hb with rfl | hb
  · exact hA a ha
  · exact h3 a ha b hb
theorem ins_filter {x : α} {l : List α} (p : α → Bool) (h : Fall f l) : (ins f x l).filter p = if p x then ins f x (l.filter p) else l.filter p := by
  obtain ⟨A, B, rfl, hA, hB⟩ := ins_ex f x h
  rw [ins_split f hA hB, List.filter_append, List.filter_append, List.filter_cons]
  split
  · rw [ins_split f (fun a ha => hA a (List.mem_filter.1 ha).1) (fun b hb => hB b (List.mem_filter.1 hb).1)]
  · rfl
def insA (acc l : List α) : List α := l.foldl (fun a x => ins f x a) acc
def isort (l : List α) : List α := insA f [] l
theorem insA_perm : ∀ (l acc : List α), (insA f acc l).Perm (acc ++ l)
  | [], acc => by rw [List.append_nil]; exact List.Perm.refl _
  | x :: l, acc => by
    show (insA f (ins f x acc) l).Perm _
    refine (insA_perm l _).trans ?_
    refine ((ins_perm f x acc).append_right l).trans ?_
    exact (List.perm_middle).symm
theorem insA_fall : ∀ {l acc : List α}, Fall f acc → Fall f (insA f acc l)
  | [], _, h => h
  | x :: l, acc, h => insA_fall (l := l) (ins_fall f h)
theorem insA_filter (p : α → Bool) : ∀ {l acc : List α}, Fall f acc → (insA f acc l).filter p = insA f (acc.filter p) (l.filter p)
  | [], _, _ => rfl
  | x :: l, acc, h => by
    show (insA f (ins f x acc) l).filter p = _
    rw [insA_filter p (l := l) (ins_fall f h), ins_filter f p h, List.filter_cons]
    split
    · rfl
    · rfl
theorem Fall.nil : Fall f [] := List.Pairwise.nil
theorem isort_perm (l : List α) : (isort f l).Perm l := insA_perm f l []
theorem isort_len (l : List α) : (isort f l).length = l.length := (isort_perm f l).length_eq
theorem isort_fall (l : List α) : Fall f (isort f l) := insA_fall f (Fall.nil f)
theorem isort_snoc (l : List α) (x : α) : isort f (l ++ [x]) = ins f x (isort f l) := by simp [isort, insA]
theorem isort_filter (p : α → Bool) (l : List α) : (isort f l).filter p = isort f (l.filter p) := insA_filter f p (Fall.nil f)
theorem isort_tail [DecidableEq α] {l t : List α} {a : α} (hn : l.Nodup) (h : isort f l = a :: t) : isort f (l.filter (fun x => decide (x ≠ a))) = t := by
  have hp := isort_perm f l
  have hn' : (a :: t).Nodup := by rw [← h]; exact hp.symm.nodup hn
  obtain ⟨h1, h2⟩ := List.nodup_cons.1 hn'
  rw [← isort_filter, h, List.filter_cons, if_neg (by simp), List.filter_eq_self.2]
  intro x hx
  simp only [decide_eq_true_eq]
  rintro rfl
  exact h1 hx
end

theorem bl_irr : ∀ x : List UInt8, Op.bytesLess x x = false
  | [] => rfl
  | a :: x => by simp [Op.bytesLess, bl_irr x]
theorem bl_trans : ∀ {x y z : List UInt8}, Op.bytesLess x y = true → Op.bytesLess y z = true → Op.bytesLess x z = true
  | [], [], _, h, _ => by cases h
  | _ :: _, [], _, h, _ => by cases h
  | [], _ :: _, [], _, h => by cases h
  | [], _ :: _, _ :: _, _, _ => rfl
  | _ :: _, _ :: _, [], _, h => by cases h
  | a :: x, b :: y, c :: z, h, k => by
    simp only [Op.bytesLess, Bool.or_eq_true, decide_eq_true_eq, Bool.and_eq_true, beq_iff_eq] at h k ⊢
    rcases h with h | ⟨rfl, h⟩
    · rcases k with k | ⟨rfl, k⟩
      · exact .inl (UInt8.lt_trans h k)
      · exact .inl h
    · rcases k with k | ⟨rfl, k⟩
      · exact .inl k
      · exact .inr ⟨rfl, bl_trans h k⟩
theorem bl_tri : ∀ {x y : List UInt8}, Op.bytesLess x y = false → x ≠ y → Op.bytesLess y x = true
  | [], [], _, h => absurd rfl h
  | _ :: _, [], _, _ => rfl
  | [], _ :: _, h, _ => by cases h
  | a :: x, b :: y, h, k => by
    simp only [Op.bytesLess, Bool.or_eq_false_iff, decide_eq_false_iff_not, Bool.and_eq_false_iff, beq_eq_false_iff_ne, Bool.or_eq_true, decide_eq_true_eq, Bool.and_eq_true, beq_iff_eq] at h ⊢
    by_cases hab : a = b
    · subst hab
      rcases h.2 with h2 | h2
      · exact absurd rfl h2
      · exact .inr ⟨rfl, bl_tri h2 fun e => k (by rw [e])⟩
    · refine .inl ?_
      rcases UInt8.lt_or_lt_of_ne hab with h1 | h1
      · exact absurd h1 h.1
      · exact h1
theorem slt_irr (x : ByteArray) : sltB x x = false := bl_irr _
theorem slt_trans {x y z : ByteArray} (h : sltB x y = true) (k : sltB y z = true) : sltB x z = true := bl_trans h k
theorem slt_tri {x y : ByteArray} (h : sltB x y = false) (k : x ≠ y) : sltB y x = true := bl_tri h fun e => k (by
  have h1 : x.data.toList = y.data.toList := by rw [← Lib.toList_data, ← Lib.toList_data, e]
  cases x with
  | mk a => cases y with
    | mk b => exact congrArg ByteArray.mk (Array.ext' h1))
/-- Texts that rise. -/
def Rise (l : List ByteArray) : Prop := l.Pairwise fun a b => sltB a b = true
theorem Rise.nodup {l : List ByteArray} (h : Rise l) : l.Nodup := List.Pairwise.imp (fun {a b} hab e => by subst e; rw [slt_irr] at hab; cases hab) h
theorem rise_of : ∀ {l : List ByteArray}, (∀ i, i + 1 < l.length → sltB (l.getD i ⟨#[]⟩) (l.getD (i + 1) ⟨#[]⟩) = true) → Rise l
  | [], _ => List.Pairwise.nil
  | [x], _ => List.pairwise_cons.2 ⟨(fun _ h => by cases h), List.Pairwise.nil⟩
  | x :: y :: l, h => by
    have ih : Rise (y :: l) := rise_of fun i hi => by simpa using h (i + 1) (by simpa using hi)
    have hxy : sltB x y = true := by simpa using h 0 (by simp)
    refine List.pairwise_cons.2 ⟨fun b hb => ?_, ih⟩
    rcases List.mem_cons.1 hb with rfl | hb
    · exact hxy
    · exact slt_trans hxy ((List.pairwise_cons.1 ih).1 b hb)
theorem Rise.at {l : List ByteArray} (h : Rise l) {i j : Nat} (hij : i < j) (hj : j < l.length) : sltB (l.getD i ⟨#[]⟩) (l.getD j ⟨#[]⟩) = true := by
  have := List.pairwise_iff_getElem.1 h i j (by omega) hj hij
  rw [List.getD_eq_getElem?_getD, List.getD_eq_getElem?_getD, List.getElem?_eq_getElem (by omega), List.getElem?_eq_getElem hj]
  exact this
theorem Rise.next {l : List ByteArray} (h : Rise l) : ∀ i, i + 1 < l.length → sltB (l.getD i ⟨#[]⟩) (l.getD (i + 1) ⟨#[]⟩) = true := fun i hi => h.at (Nat.lt_succ_self i) hi
end Go.Proofs.YthkjjombaoffcaaGreatDoor.Q
