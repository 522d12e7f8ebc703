/- The search in rising texts, and a backend that goes. -/
import Derived.Test.YthkjjombaoffcaaGreatDoorQRnkRFnRendezvous
import Derived.Test.YthkjjombaoffcaaGreatDoorQCuFnRendezvous
set_option linter.unusedVariables false
set_option linter.unusedSimpArgs false
namespace Go.Proofs.YthkjjombaoffcaaGreatDoor.CFnRendezvous
open Go Go.Proofs Go.Proofs.YthkjjombaoffcaaGreatDoorPM Go.Proofs.YthkjjombaoffcaaGreatDoor.Q Go.Proofs.YthkjjombaoffcaaGreatDoor.GFnRendezvous

theorem half_ok {i j : Nat} (h : i + j ≤ 2000000) : IntKind.i64.wrap (shrI .u64 (IntKind.u64.wrap (IntKind.i64.wrap ((i : Int) + j))) 1) = (((i + j) / 2 : Nat) : Int) := by
  have e := shr_f .u64 (x := (i : Int) + j) 1 2 (by decide) (by decide)
  rw [i64w (n := (i : Int) + j) (by omega) (by omega), u64i (n := (i : Int) + j) (by omega) (by omega), show shrI .u64 ((i : Int) + j) 1 = _ from e, i64w (by omega) (by omega)]
  omega
theorem nanS (x : ByteArray) : EvP (fun N => cmp_isNaNstring N x) (· = ((false, ()), ())) := EvP.of (fun N => cmp_isNaNstring.eq N _) (EvP.some (by simp))
theorem nanT (x : ByteArray) : EvP (fun N => slices_isNaNstring N x) (· = ((false, ()), ())) := EvP.of (fun N => slices_isNaNstring.eq N _) (EvP.some (by simp))
theorem lessS (x y : ByteArray) : EvP (fun N => cmp_Lessstring N x y) (· = ((sltB x y, ()), ())) := EvP.of (fun N => cmp_Lessstring.eq N _ _) (EvP.to (nanS x) (EvP.no rfl (EvP.some rfl)))
/-- Where a text stands, or would stand. -/
def At (l : List ByteArray) (t : ByteArray) (k : Nat) : Prop := (∀ m, m < k → sltB (l.getD m ⟨#[]⟩) t = true) ∧ ∀ m, k ≤ m → m < l.length → sltB (l.getD m ⟨#[]⟩) t = false
theorem rise_mono {l : List ByteArray} (h : Rise l) {t : ByteArray} {m n : Nat} (hmn : m ≤ n) (hn : n < l.length) (k : sltB (l.getD n ⟨#[]⟩) t = true) : sltB (l.getD m ⟨#[]⟩) t = true := by
  rcases Nat.lt_or_ge m n with h1 | h1
  · exact slt_trans (h.at h1 hn) k
  · have : m = n := by omega
    subst this
    exact k
theorem bs_l (l : List ByteArray) (hl : l.length ≤ 1000000) (t : ByteArray) (n : Int) : ∀ (d i j : Nat), j - i ≤ d → i ≤ j → j ≤ l.length → (Rise l → (∀ m, m < i → sltB (l.getD m ⟨#[]⟩) t = true) ∧ ∀ m, j ≤ m → m < l.length → sltB (l.getD m ⟨#[]⟩) t = false) →
    EvP (fun N => slices_BinarySearchstring_string.l0 N l t n (i : Int) (j : Int)) (fun r => ∃ k : Nat, k ≤ l.length ∧ r = (((k : Int), ()), ()) ∧ (Rise l → At l t k))
  | d, i, j, hd, hij, hj, hr => by
    refine EvP.step (fun N => slices_BinarySearchstring_string.l0.eq N _ _ _ _ _) (EvP.ite (fun h => ?_) (fun h => EvP.some ⟨i, by omega, rfl, fun r => ⟨(hr r).1, fun m h1 h2 => (hr r).2 m (by omega) h2⟩⟩))
    rw [half_ok (by omega)]
    have hh1 : i ≤ (i + j) / 2 := by omega
    have hh2 : (i + j) / 2 < j := by omega
    generalize (i + j) / 2 = h at hh1 hh2
    match d, hd with
    | d + 1, hd =>
      refine EvP.chk2 (by omega) (by omega) (EvP.to (lessS _ _) ?_)
      dsimp only
      rw [Int.toNat_natCast]
      have w1 : IntKind.i64.wrap ((h : Int) + 1) = ((h + 1 : Nat) : Int) := by rw [i64w (by omega) (by omega)]; omega
      rw [w1]
      refine EvP.sel (fun e => ?_) (fun e => ?_)
      · exact bs_l l hl t n d (h + 1) j (by omega) (by omega) hj fun r => ⟨fun m hm => rise_mono r (show m ≤ h by omega) (by omega) e, (hr r).2⟩
      · refine bs_l l hl t n d i h (by omega) (by omega) (by omega) fun r => ⟨(hr r).1, fun m h1 h2 => ?_⟩
        rw [Bool.eq_false_iff]
        intro h3
        rw [rise_mono r h1 h2 h3] at e
        cases e
    | 0, hd => omega
theorem bs_ok (l : List ByteArray) (hl : l.length ≤ 1000000) (t : ByteArray) :
    EvP (fun N => slices_BinarySearchstring_string N l t) (fun r => ∃ k : Nat, k ≤ l.length ∧ r = (((k : Int), (decide (k < l.length ∧ l.getD k ⟨#[]⟩ = t), ())), ()) ∧ (Rise l → At l t k)) := by
  refine EvP.of (fun N => slices_BinarySearchstring_string.eq N _ _) (EvP.andK (bs_l l hl t (l.length : Int) l.length 0 l.length (by omega) (by omega) (by omega) fun r => ⟨(fun m h => by omega), (fun m h1 h2 => by omega)⟩) ?_)
  rintro r ⟨k, h1, rfl, h2⟩
  dsimp only
  rw [Int.toNat_natCast]
  refine EvP.ite (fun h => EvP.chk2 (by omega) (by omega) (EvP.ite (fun e => EvP.some ⟨k, h1, ?_, h2⟩) (fun e => EvP.chk2 (by omega) (by omega) (EvP.to (nanT _) (EvP.no rfl (EvP.some ⟨k, h1, ?_, h2⟩)))))) (fun h => EvP.some ⟨k, h1, ?_, h2⟩)
  · rw [decide_eq_true (show k < l.length ∧ l.getD k ⟨#[]⟩ = t from ⟨by omega, e⟩)]
  · rw [decide_eq_false (show ¬ (k < l.length ∧ l.getD k ⟨#[]⟩ = t) from fun x => e x.2)]
  · rw [decide_eq_false (show ¬ (k < l.length ∧ l.getD k ⟨#[]⟩ = t) from fun x => h (by omega))]
/-- The set without a text. -/
def without (l : List ByteArray) (a : ByteArray) : List ByteArray := l.filter fun x => decide (x ≠ a)
theorem without_cut {A B : List ByteArray} {a : ByteArray} (h : (A ++ a :: B).Nodup) : without (A ++ a :: B) a = A ++ B := by
  obtain ⟨h1, h2, h3⟩ := List.nodup_append.1 h
  obtain ⟨h4, h5⟩ := List.nodup_cons.1 h2
  unfold without
  rw [List.filter_append, List.filter_cons, if_neg (by simp), List.filter_eq_self.2, List.filter_eq_self.2]
  · intro x hx
    simp only [decide_eq_true_eq]
    rintro rfl
    exact h4 hx
  · intro x hx
    simp only [decide_eq_true_eq]
    rintro rfl
    exact h3 _ hx _ List.mem_cons_self rfl
theorem at_mem {l : List ByteArray} {a : ByteArray} {k : Nat} (hr : Rise l) (ha : a ∈ l) (h : At l a k) : ∃ A B, l = A ++ a :: B ∧ A.length = k := by
  obtain ⟨A, B, rfl⟩ := List.append_of_mem ha
  refine ⟨A, B, rfl, ?_⟩
  have hg : (A ++ a :: B).getD A.length ⟨#[]⟩ = a := getD_app rfl
  rcases Nat.lt_trichotomy A.length k with h1 | h1 | h1
  · have := h.1 A.length h1
    rw [hg, slt_irr] at this
    cases this
  · exact h1
  · have h2 := h.2 k (Nat.le_refl _) (by simp; omega)
    have h3 := hr.at h1 (by simp)
    rw [hg, h2] at h3
    cases h3
theorem DropI {l : List ByteArray} (hl : l.length ≤ 1000000) (hs : Small l) (hg : glB l = true) {a : ByteArray} (ha : a ∈ l) :
    EvP (fun N => impl_DropBackend N l a) (· = (((), (true, ())), (without l a, ()))) := by
  have hm : (most : Nat) = 68719476736 := rfl
  have hr := ((glB_iff l).1 hg).2.1
  refine EvP.of (fun N => impl_DropBackend.eq N _ _) (EvP.andK (bs_ok l hl a) ?_)
  rintro r ⟨k, h1, rfl, h2⟩
  obtain ⟨A, B, rfl, hk⟩ := at_mem hr ha (h2 hr)
  subst hk
  have hg' : (A ++ a :: B).getD A.length ⟨#[]⟩ = a := getD_app rfl
  have hlen : (A ++ a :: B).length = A.length + 1 + B.length := by simp; omega
  have w1 : IntKind.i64.wrap ((A.length : Int) + 1) = ((A.length + 1 : Nat) : Int) := by rw [i64w (by omega) (by omega)]; omega
  dsimp only
  rw [decide_eq_true (show A.length < (A ++ a :: B).length ∧ (A ++ a :: B).getD A.length ⟨#[]⟩ = a from ⟨by omega, hg'⟩)]
  refine EvP.to (a := ((false, ()), ())) (EvP.to (goodI _ hl hs) ?_) (EvP.no rfl ?_)
  · dsimp only
    rw [hg]
    exact EvP.no rfl (EvP.some rfl)
  · refine EvP.to (a := (((), ()), (A ++ a :: B, ()))) (EvP.of (fun N => slices_Clonestring_string.eq N _) (EvP.chk1 (by rw [hm]; omega) (EvP.some rfl))) ?_
    rw [w1]
    refine EvP.to (a := (((), ()), (without (A ++ a :: B) a, ()))) (EvP.of (fun N => slices_Deletestring_string.eq N _ _ _) (EvP.chk1 (by omega) (EvP.chk1 (by omega) (EvP.chk1 (by (try dsimp only); omega) (EvP.some ?_))))) (EvP.some rfl)
    rw [without_cut hr.nodup]
    unfold delL
    rw [Int.toNat_natCast, Int.toNat_natCast, List.take_left, show A.length + 1 = (A ++ [a]).length by simp, show A ++ a :: B = (A ++ [a]) ++ B by simp, List.drop_left]
theorem without_good {l : List ByteArray} (h : glB l = true) (a : ByteArray) : glB (without l a) = true := by
  obtain ⟨h1, h2, h3⟩ := (glB_iff l).1 h
  refine (glB_iff _).2 ⟨fun x hx => h1 x (List.mem_filter.1 hx).1, List.Pairwise.filter _ h2, Nat.le_trans (List.length_filter_le _ _) h3⟩
end Go.Proofs.YthkjjombaoffcaaGreatDoor.CFnRendezvous
