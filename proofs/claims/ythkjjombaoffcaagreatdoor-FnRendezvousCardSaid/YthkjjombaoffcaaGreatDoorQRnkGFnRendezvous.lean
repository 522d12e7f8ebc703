/- Good backends and good live sets, as both packages tell them. -/
import Derived.Test.YthkjjombaoffcaaGreatDoorQRnkA
import Derived.Test.YthkjjombaoffcaaGreatDoorGFnRendezvousx0
set_option linter.unusedVariables false
set_option linter.unusedSimpArgs false
namespace Go.Proofs.YthkjjombaoffcaaGreatDoor.CFnRendezvous
open Go Go.Proofs Go.Proofs.YthkjjombaoffcaaGreatDoorPM Go.Proofs.YthkjjombaoffcaaGreatDoor.Q Go.Proofs.YthkjjombaoffcaaGreatDoor.GFnRendezvous

def gchar (x : Int) : Bool := (decide (97 ≤ x) && decide (x ≤ 122)) || (decide (48 ≤ x) && decide (x ≤ 57))
def gb (s : ByteArray) : Bool := (bytesL s).all gchar && (decide (1 ≤ s.size) && decide (s.size ≤ 12))
def letters : ByteArray := ⟨#[97, 98, 99, 100, 101, 102, 103, 104, 105, 106, 107, 108, 109, 110, 111, 112, 113, 114, 115, 116, 117, 118, 119, 120, 121, 122, 48, 49, 50, 51, 52, 53, 54, 55, 56, 57]⟩
theorem letters_all : ((List.range 256).all fun n => letters.data.toList.contains (UInt8.ofNat n) == gchar (n : Int)) = true := by kernel_rfl
theorem letters_at (b : UInt8) : letters.data.toList.contains b = gchar ((b.toNat : Nat) : Int) := by
  have h := List.all_eq_true.1 letters_all b.toNat (List.mem_range.2 b.toNat_lt)
  rw [UInt8.ofNat_toNat] at h
  exact eq_of_beq h
theorem dropW_nil {p : UInt8 → Bool} : ∀ {l : List UInt8}, (∀ x ∈ l.dropWhile p, p x = true) → l.dropWhile p = []
  | [], _ => rfl
  | x :: l, h => by
    rw [List.dropWhile_cons] at h ⊢
    split
    · rename_i hx
      rw [if_pos hx] at h
      exact dropW_nil h
    · rename_i hx
      rw [if_neg hx] at h
      exact absurd (h x List.mem_cons_self) hx
theorem dropW_nil_iff {p : UInt8 → Bool} : ∀ {l : List UInt8}, l.dropWhile p = [] ↔ ∀ x ∈ l, p x = true
  | [] => ⟨(fun _ _ h => by cases h), fun _ => rfl⟩
  | x :: l => by
    rw [List.dropWhile_cons]
    split
    · rename_i hx
      rw [dropW_nil_iff (l := l)]
      refine ⟨fun h y hy => ?_, fun h y hy => h y (List.mem_cons_of_mem _ hy)⟩
      rcases List.mem_cons.1 hy with rfl | hy
      · exact hx
      · exact h y hy
    · rename_i hx
      exact ⟨(fun h => by cases h), fun h => absurd (h x List.mem_cons_self) hx⟩
theorem trimS_nil (l cs : List UInt8) : Lib.trimS l cs = [] ↔ ∀ x ∈ l, cs.contains x = true := by
  unfold Lib.trimS Lib.trimLeftS Lib.trimRightS
  rw [dropW_nil_iff]
  refine ⟨fun h => ?_, fun h x hx => ?_⟩
  · have h1 := dropW_nil (p := (cs.contains ·)) (l := l.reverse) fun x hx => h x (List.mem_reverse.2 hx)
    rw [dropW_nil_iff] at h1
    exact fun x hx => h1 x (List.mem_reverse.2 hx)
  · exact h x (List.mem_reverse.1 (List.dropWhile_sublist _ |>.mem (List.mem_reverse.1 hx)))
theorem over_ok (s : ByteArray) : decide (trimL s letters = (⟨#[]⟩ : ByteArray)) = (bytesL s).all gchar := by
  have h1 : trimL s letters = (⟨#[]⟩ : ByteArray) ↔ ∀ x ∈ s.data.toList, letters.data.toList.contains x = true := by
    rw [← trimS_nil]
    unfold trimL
    refine ⟨fun h => ?_, fun h => by rw [h]⟩
    have := congrArg (fun a => a.data.toList) h
    simpa using this
  rw [Bool.eq_iff_iff, decide_eq_true_eq, h1, List.all_eq_true]
  unfold bytesL
  refine ⟨fun h x hx => ?_, fun h x hx => ?_⟩
  · obtain ⟨b, hb, rfl⟩ := List.mem_map.1 hx
    rw [← letters_at]
    exact h b hb
  · rw [letters_at]
    exact h _ (List.mem_map.2 ⟨x, hx, rfl⟩)
theorem impl_gb (s : ByteArray) (hs : s.size ≤ 1000) : EvP (fun N => impl_GoodBackend N s) (· = ((gb s, ()), ())) := by
  refine EvP.of (fun N => impl_GoodBackend.eq N _) (EvP.to (a := ((decide (1 ≤ s.size) && decide (s.size ≤ 12), ()), ())) ?_ ?_)
  · refine EvP.of (fun N => impl_in.eq N _ _ _) (EvP.ite (fun h => EvP.some ?_) (fun h => EvP.some ?_))
    · have : 1 ≤ s.size := by omega
      simp [this]
      omega
    · have : ¬ 1 ≤ s.size := by omega
      simp [this]
  · dsimp only
    refine EvP.sel (fun e => ?_) (fun e => EvP.some ?_)
    · refine EvP.to (a := (((bytesL s).all gchar, ()), ())) (EvP.of (fun N => impl_over.eq N _ _) (EvP.to (a := ((trimL s letters, ()), ())) (EvP.of (fun N => strings_Trim.eq N _ _) (EvP.chk1 (by omega) (EvP.chk (by kernel_rfl) (EvP.chk (by kernel_rfl) (EvP.some rfl))))) (EvP.some ?_))) (EvP.some ?_)
      · rw [over_ok]
      · simp [gb, e]
    · simp [gb, e]
def notG (x : Int) : Bool := !(gchar x)
theorem spec_gb_l (s : ByteArray) (hs : s.size ≤ 1000) : ∀ (d i : Nat), i + d = s.size →
    EvP (fun N => spec_l8Backend.l0 N s (i : Int)) (· = if ((bytesL s).drop i).all gchar then .inr ((), ()) else .inl ((false, ()), ()))
  | 0, i, h => by
    refine EvP.step (fun N => spec_l8Backend.l0.eq N _ _) (EvP.neg (by omega) (EvP.some ?_))
    rw [List.drop_eq_nil_of_le (by rw [bytesL_len]; omega)]
    rfl
  | d + 1, i, h => by
    have hi : i < (bytesL s).length := by rw [bytesL_len]; omega
    have hx : (bytesL s).getD i 0 = (bytesL s)[i] := by rw [List.getD_eq_getElem?_getD, List.getElem?_eq_getElem hi]; rfl
    have hd : (bytesL s).drop i = (bytesL s)[i] :: (bytesL s).drop (i + 1) := List.drop_eq_getElem_cons hi
    refine EvP.step (fun N => spec_l8Backend.l0.eq N _ _) (EvP.pos (by omega) (EvP.chk2 (by omega) (by omega) (EvP.to (a := ((notG (bytesL s)[i], ()), ())) ?_ ?_)))
    · rw [Int.toNat_natCast, hx]
      generalize (bytesL s)[i] = x
      unfold notG gchar
      refine EvP.ite (fun h1 => EvP.ite (fun h2 => EvP.some ?_) (fun h2 => EvP.ite (fun h3 => EvP.some ?_) (fun h3 => EvP.some ?_))) (fun h1 => EvP.ite (fun h3 => EvP.some ?_) (fun h3 => EvP.some ?_))
      · simp [h1, h2]
      · simp [h1, h2, h3]
      · simp [h1, h2, h3]
      · simp [h1, h3]
      · simp [h1, h3]
    · dsimp only
      rw [hd, List.all_cons]
      refine EvP.sel (fun e => EvP.some ?_) (fun e => ?_)
      · have e : gchar (bytesL s)[i] = false := by simpa [notG] using e
        simp [e]
      · have e : gchar (bytesL s)[i] = true := by simpa [notG] using e
        have w1 : IntKind.i64.wrap ((i : Int) + 1) = ((i + 1 : Nat) : Int) := by rw [i64w (by omega) (by omega)]; omega
        rw [w1]
        refine (spec_gb_l s hs d (i + 1) (by omega)).mono fun r hr => ?_
        rw [hr]
        simp [e]
theorem spec_gb (s : ByteArray) (hs : s.size ≤ 1000) : EvP (fun N => spec_l8Backend N s) (· = ((gb s, ()), ())) := by
  refine EvP.of (fun N => spec_l8Backend.eq N _) (EvP.to (spec_gb_l s hs s.size 0 (by omega)) ?_)
  rw [List.drop_zero]
  refine EvP.or (fun x h => EvP.some ?_) (fun x h => ?_)
  · split at h
    · cases h
    · rename_i h1
      cases h
      have h1 : (bytesL s).all gchar = false := by simpa using h1
      simp [gb, h1]
  · split at h
    · rename_i h1
      refine EvP.to (a := ((decide (1 ≤ s.size) && decide (s.size ≤ 12), ()), ())) ?_ (EvP.some (by simp [gb, h1]))
      refine EvP.of (fun N => spec_l1In.eq N _ _ _) (EvP.ite (fun h => EvP.some ?_) (fun h => EvP.some ?_))
      · have : 1 ≤ s.size := by omega
        simp [this]
        omega
      · have : ¬ 1 ≤ s.size := by omega
        simp [this]
    · cases h
def stepB (l : List ByteArray) (j : Nat) : Bool := gb (l.getD j ⟨#[]⟩) && (decide (j = 0) || sltB (l.getD (j - 1) ⟨#[]⟩) (l.getD j ⟨#[]⟩))
def glB (l : List ByteArray) : Bool := (List.range' 0 l.length).all (stepB l) && decide ((l.length : Int) ≤ 12)
theorem getD_small {l : List ByteArray} (hs : ∀ x ∈ l, x.size ≤ 1000) (i : Nat) : (l.getD i ⟨#[]⟩).size ≤ 1000 := by
  rw [List.getD_eq_getElem?_getD]
  cases h : l[i]? with
  | none => exact Nat.zero_le _
  | some x => exact hs x (List.mem_of_getElem? h)
theorem glB_iff (l : List ByteArray) : glB l = true ↔ (∀ x ∈ l, gb x = true) ∧ Rise l ∧ l.length ≤ 12 := by
  unfold glB
  rw [Bool.and_eq_true, decide_eq_true_eq, List.all_eq_true]
  have hg : ∀ j, j < l.length → stepB l j = (gb (l.getD j ⟨#[]⟩) && (decide (j = 0) || sltB (l.getD (j - 1) ⟨#[]⟩) (l.getD j ⟨#[]⟩))) := fun _ _ => rfl
  constructor
  · rintro ⟨h, h2⟩
    have h : ∀ j, j < l.length → gb (l.getD j ⟨#[]⟩) = true ∧ (j = 0 ∨ sltB (l.getD (j - 1) ⟨#[]⟩) (l.getD j ⟨#[]⟩) = true) := fun j hj => by
      have := h j (by simp [List.mem_range']; omega)
      simpa [stepB] using this
    refine ⟨fun x hx => ?_, rise_of fun i hi => ?_, by omega⟩
    · obtain ⟨i, hi, rfl⟩ := List.getElem_of_mem hx
      have := (h i hi).1
      rwa [List.getD_eq_getElem?_getD, List.getElem?_eq_getElem hi] at this
    · rcases (h (i + 1) hi).2 with h3 | h3
      · omega
      · exact h3
  · rintro ⟨h1, h2, h3⟩
    refine ⟨fun j hj => ?_, by omega⟩
    have hj : j < l.length := by simp [List.mem_range'] at hj; omega
    have h4 : gb (l.getD j ⟨#[]⟩) = true := by
      rw [List.getD_eq_getElem?_getD, List.getElem?_eq_getElem hj]
      exact h1 _ (List.getElem_mem hj)
    unfold stepB
    rw [h4]
    by_cases h0 : j = 0
    · simp [h0]
    · rw [h2.at (show j - 1 < j by omega) hj, Bool.or_true]
      rfl

theorem goodI_l (l : List ByteArray) (hl : l.length ≤ 1000000) (hs : ∀ x ∈ l, x.size ≤ 1000) : ∀ (d i : Nat), i + d = l.length →
    EvP (fun N => impl_GoodLive.l0 N l l (l.length : Int) (i : Int)) (· = if (List.range' i d).all (stepB l) then .inr ((), ()) else .inl ((false, ()), ()))
  | 0, i, h => EvP.step (fun N => impl_GoodLive.l0.eq N _ _ _ _) (EvP.neg (by omega) (EvP.some rfl))
  | d + 1, i, h => by
    refine EvP.step (fun N => impl_GoodLive.l0.eq N _ _ _ _) (EvP.pos (by omega) (EvP.chk2 (by omega) (by omega) (EvP.to (a := ((!(stepB l i), ()), ())) ?_ ?_)))
    · refine EvP.to (impl_gb (l.getD (Int.toNat (i : Int)) ⟨#[]⟩) (getD_small hs _)) ?_
      dsimp only
      rw [Int.toNat_natCast]
      unfold stepB
      refine EvP.sel (fun e => EvP.some ?_) (fun e => ?_)
      · have e : gb (l.getD i ⟨#[]⟩) = false := by simpa using e
        rw [e]; rfl
      · have e : gb (l.getD i ⟨#[]⟩) = true := by simpa using e
        rw [e]
        refine EvP.ite (fun h1 => ?_) (fun h1 => EvP.some ?_)
        · have w1 : IntKind.i64.wrap ((i : Int) - 1) = ((i - 1 : Nat) : Int) := by rw [i64w (by omega) (by omega)]; omega
          rw [w1]
          refine EvP.chk2 (by omega) (by omega) (EvP.some ?_)
          have : ¬ i = 0 := by omega
          simp [this]
        · have : i = 0 := by omega
          simp [this]
    · dsimp only
      rw [List.range'_succ, List.all_cons]
      refine EvP.sel (fun e => EvP.some ?_) (fun e => ?_)
      · have e : stepB l i = false := by simpa using e
        simp [e]
      · have e : stepB l i = true := by simpa using e
        have w1 : IntKind.i64.wrap ((i : Int) + 1) = ((i + 1 : Nat) : Int) := by rw [i64w (by omega) (by omega)]; omega
        rw [w1]
        refine (goodI_l l hl hs d (i + 1) (by omega)).mono fun r hr => ?_
        rw [hr, e]
        rfl
theorem goodI (l : List ByteArray) (hl : l.length ≤ 1000000) (hs : ∀ x ∈ l, x.size ≤ 1000) : EvP (fun N => impl_GoodLive N l) (· = ((glB l, ()), ())) := by
  refine EvP.of (fun N => impl_GoodLive.eq N _) (EvP.to (goodI_l l hl hs l.length 0 (by omega)) ?_)
  refine EvP.or (fun x h => EvP.some ?_) (fun x h => EvP.some ?_)
  · split at h
    · cases h
    · rename_i h1
      cases h
      have h1 : (List.range' 0 l.length).all (stepB l) = false := by simpa using h1
      simp [glB, h1]
  · split at h
    · rename_i h1
      simp [glB, h1]
    · cases h

theorem goodS_l (l : List ByteArray) (hl : l.length ≤ 1000000) (hs : ∀ x ∈ l, x.size ≤ 1000) : ∀ (d i : Nat), i + d = l.length →
    EvP (fun N => spec_GoodLive.l0 N l l (l.length : Int) (i : Int)) (· = if (List.range' i d).all (stepB l) then .inr ((), ()) else .inl ((false, ()), ()))
  | 0, i, h => EvP.step (fun N => spec_GoodLive.l0.eq N _ _ _ _) (EvP.neg (by omega) (EvP.some rfl))
  | d + 1, i, h => by
    refine EvP.step (fun N => spec_GoodLive.l0.eq N _ _ _ _) (EvP.pos (by omega) (EvP.chk2 (by omega) (by omega) (EvP.to (a := ((!(stepB l i), ()), ())) ?_ ?_)))
    · refine EvP.to (spec_gb (l.getD (Int.toNat (i : Int)) ⟨#[]⟩) (getD_small hs _)) ?_
      dsimp only
      rw [Int.toNat_natCast]
      unfold stepB
      refine EvP.sel (fun e => EvP.some ?_) (fun e => ?_)
      · have e : gb (l.getD i ⟨#[]⟩) = false := by simpa using e
        rw [e]; rfl
      · have e : gb (l.getD i ⟨#[]⟩) = true := by simpa using e
        rw [e]
        refine EvP.ite (fun h1 => ?_) (fun h1 => EvP.some ?_)
        · have w1 : IntKind.i64.wrap ((i : Int) - 1) = ((i - 1 : Nat) : Int) := by rw [i64w (by omega) (by omega)]; omega
          rw [w1]
          refine EvP.chk2 (by omega) (by omega) (EvP.some ?_)
          have : ¬ i = 0 := by omega
          simp [this]
        · have : i = 0 := by omega
          simp [this]
    · dsimp only
      rw [List.range'_succ, List.all_cons]
      refine EvP.sel (fun e => EvP.some ?_) (fun e => ?_)
      · have e : stepB l i = false := by simpa using e
        simp [e]
      · have e : stepB l i = true := by simpa using e
        have w1 : IntKind.i64.wrap ((i : Int) + 1) = ((i + 1 : Nat) : Int) := by rw [i64w (by omega) (by omega)]; omega
        rw [w1]
        refine (goodS_l l hl hs d (i + 1) (by omega)).mono fun r hr => ?_
        rw [hr, e]
        rfl
theorem goodS (l : List ByteArray) (hl : l.length ≤ 1000000) (hs : ∀ x ∈ l, x.size ≤ 1000) : EvP (fun N => spec_GoodLive N l) (· = ((glB l, ()), ())) := by
  refine EvP.of (fun N => spec_GoodLive.eq N _) (EvP.to (goodS_l l hl hs l.length 0 (by omega)) ?_)
  refine EvP.or (fun x h => EvP.some ?_) (fun x h => EvP.some ?_)
  · split at h
    · cases h
    · rename_i h1
      cases h
      have h1 : (List.range' 0 l.length).all (stepB l) = false := by simpa using h1
      simp [glB, h1]
  · split at h
    · rename_i h1
      simp [glB, h1]
    · cases h
end Go.Proofs.YthkjjombaoffcaaGreatDoor.CFnRendezvous
