/- One comes, one goes; who is picked; which keys move. -/
import Derived.Test.YthkjjombaoffcaaGreatDoorQRnkDFnRendezvous
set_option linter.unusedVariables false
set_option linter.unusedSimpArgs false
namespace Go.Proofs.YthkjjombaoffcaaGreatDoor.CFnRendezvous
open Go Go.Proofs Go.Proofs.YthkjjombaoffcaaGreatDoorPM Go.Proofs.YthkjjombaoffcaaGreatDoor.Q Go.Proofs.YthkjjombaoffcaaGreatDoor.GFnRendezvous

theorem at_has {l : List ByteArray} {a : ByteArray} {k : Nat} (hr : Rise l) (h : At l a k) : (k < l.length ∧ l.getD k ⟨#[]⟩ = a) ↔ a ∈ l := by
  constructor
  · rintro ⟨h1, rfl⟩
    rw [List.getD_eq_getElem?_getD, List.getElem?_eq_getElem h1]
    exact List.getElem_mem h1
  · intro ha
    obtain ⟨A, B, rfl, rfl⟩ := at_mem hr ha h
    exact ⟨by simp, getD_app rfl⟩
theorem l9_l (l : List ByteArray) (hl : l.length ≤ 1000000) (t : ByteArray) : ∀ (d k : Nat), k + d = l.length → (∀ m, m < k → sltB (l.getD m ⟨#[]⟩) t = true) →
    EvP (fun N => spec_l9At.l0 N l t (k : Int)) (fun r => ∃ k : Nat, k ≤ l.length ∧ r = (((k : Int), ()), ()) ∧ (Rise l → At l t k))
  | 0, k, h, h1 => by
    refine EvP.step (fun N => spec_l9At.l0.eq N _ _ _) (EvP.to (a := ((false, ()), ())) (EvP.neg (by omega) (EvP.some rfl)) (EvP.no rfl (EvP.some ⟨k, by omega, rfl, fun _ => ⟨h1, fun m g1 g2 => by omega⟩⟩)))
  | d + 1, k, h, h1 => by
    have w1 : IntKind.i64.wrap ((k : Int) + 1) = ((k + 1 : Nat) : Int) := by rw [i64w (by omega) (by omega)]; omega
    refine EvP.step (fun N => spec_l9At.l0.eq N _ _ _) (EvP.to (a := ((sltB (l.getD k ⟨#[]⟩) t, ()), ())) (EvP.pos (by omega) (EvP.chk2 (by omega) (by omega) (EvP.some (by rw [Int.toNat_natCast])))) (EvP.sel (fun e => ?_) (fun e => EvP.some ⟨k, by omega, rfl, fun r => ⟨h1, fun m g1 g2 => ?_⟩⟩)))
    · rw [w1]
      refine l9_l l hl t d (k + 1) (by omega) fun m hm => ?_
      rcases Nat.lt_or_ge m k with g | g
      · exact h1 m g
      · have : m = k := by omega
        subst this
        exact e
    · have e : sltB (l.getD k ⟨#[]⟩) t = false := e
      rw [Bool.eq_false_iff]
      intro h3
      have := rise_mono r g1 g2 h3
      rw [e] at this
      cases this
theorem l9_ok (l : List ByteArray) (hl : l.length ≤ 1000000) (t : ByteArray) :
    EvP (fun N => spec_l9At N l t) (fun r => ∃ k : Nat, k ≤ l.length ∧ r = (((k : Int), (decide (k < l.length ∧ l.getD k ⟨#[]⟩ = t), ())), ()) ∧ (Rise l → At l t k)) := by
  refine EvP.of (fun N => spec_l9At.eq N _ _) (EvP.andK (l9_l l hl t l.length 0 (by omega) (fun m h => by omega)) ?_)
  rintro r ⟨k, h1, rfl, h2⟩
  dsimp only
  rw [Int.toNat_natCast]
  refine EvP.ite (fun h => EvP.chk2 (by omega) (by omega) (EvP.some ⟨k, h1, ?_, h2⟩)) (fun h => EvP.some ⟨k, h1, ?_, h2⟩)
  · by_cases e : l.getD k ⟨#[]⟩ = t
    · rw [decide_eq_true e, decide_eq_true (show k < l.length ∧ l.getD k ⟨#[]⟩ = t from ⟨by omega, e⟩)]
    · rw [decide_eq_false e, decide_eq_false (show ¬ (k < l.length ∧ l.getD k ⟨#[]⟩ = t) from fun x => e x.2)]
  · rw [decide_eq_false (show ¬ (k < l.length ∧ l.getD k ⟨#[]⟩ = t) from fun x => h (by omega))]
abbrev LRes : Type := (Unit × (Bool × Unit)) × (List ByteArray × Unit)
def noR : LRes := (((), (false, ())), ([], ()))
def hasB (l : List ByteArray) (a : ByteArray) : Bool := l.any fun x => decide (x = a)
theorem hasB_iff (l : List ByteArray) (a : ByteArray) : hasB l a = true ↔ a ∈ l := by
  unfold hasB
  rw [List.any_eq_true]
  exact ⟨fun ⟨x, h, e⟩ => by rw [← of_decide_eq_true e]; exact h, fun h => ⟨a, h, decide_eq_true rfl⟩⟩
theorem hasB_no (l : List ByteArray) (a : ByteArray) : hasB l a = false ↔ a ∉ l := by rw [← hasB_iff, Bool.not_eq_true]
theorem dec_has {c : Prop} [Decidable c] {l : List ByteArray} {a : ByteArray} (h : c ↔ a ∈ l) : decide c = hasB l a := by
  rw [Bool.eq_iff_iff, decide_eq_true_eq, h, hasB_iff]
def okD (l : List ByteArray) (a : ByteArray) : Bool := glB l && hasB l a
theorem okD_iff (l : List ByteArray) (a : ByteArray) : okD l a = true ↔ glB l = true ∧ a ∈ l := by rw [okD, Bool.and_eq_true, hasB_iff]
def dropF (l : List ByteArray) (a : ByteArray) : LRes := if okD l a = true then (((), (true, ())), (without l a, ())) else noR
theorem DropA {l : List ByteArray} (hl : l.length ≤ 1000000) (hs : Small l) (a : ByteArray) : EvP (fun N => impl_DropBackend N l a) (· = dropF l a) := by
  unfold dropF
  by_cases hok : okD l a = true
  · rw [if_pos hok]
    have h := (okD_iff l a).1 hok
    exact DropI hl hs h.1 h.2
  · rw [if_neg hok]
    refine EvP.of (fun N => impl_DropBackend.eq N _ _) (EvP.andK (bs_ok l hl a) ?_)
    rintro r ⟨k, h1, rfl, h2⟩
    refine EvP.to (a := ((true, ()), ())) (EvP.to (goodI _ hl hs) ?_) (EvP.yes rfl (EvP.some rfl))
    dsimp only
    refine EvP.sel (fun e => EvP.some rfl) (fun e => EvP.some ?_)
    have e : glB l = true := by simpa using e
    have ha : ¬ a ∈ l := fun ha => hok ((okD_iff l a).2 ⟨e, ha⟩)
    have hr := ((glB_iff l).1 e).2.1
    rw [decide_eq_false (fun x => ha ((at_has hr (h2 hr)).1 x))]
    rfl
theorem DropB {l : List ByteArray} (hl : l.length ≤ 1000000) (hs : Small l) (a : ByteArray) : EvP (fun N => spec_DropBackend N l a) (· = dropF l a) := by
  have hm : (most : Nat) = 68719476736 := rfl
  unfold dropF
  refine EvP.of (fun N => spec_DropBackend.eq N _ _) (EvP.andK (l9_ok l hl a) ?_)
  rintro r ⟨k, h1, rfl, h2⟩
  refine EvP.to (a := ((!(okD l a), ()), ())) (EvP.to (goodS _ hl hs) ?_) ?_
  · dsimp only
    refine EvP.sel (fun e => EvP.some ?_) (fun e => EvP.some ?_)
    · have e : glB l = false := by simpa using e
      simp [okD, e]
    · have e : glB l = true := by simpa using e
      have hr := ((glB_iff l).1 e).2.1
      rw [dec_has (at_has hr (h2 hr))]
      simp [okD, e]
  · refine EvP.sel (fun e => EvP.some ?_) (fun e => ?_)
    · have e : okD l a = false := by simpa using e
      rw [e]
      rfl
    · have e : okD l a = true := by simpa using e
      rw [if_pos e]
      have h := (okD_iff l a).1 e
      have hr := ((glB_iff l).1 h.1).2.1
      obtain ⟨A, B, rfl, rfl⟩ := at_mem hr h.2 (h2 hr)
      have hlen : (A ++ a :: B).length = A.length + 1 + B.length := by simp; omega
      have w1 : IntKind.i64.wrap ((A.length : Int) + 1) = ((A.length + 1 : Nat) : Int) := by rw [i64w (by omega) (by omega)]; omega
      have c1 : cut (A ++ a :: B) 0 (A.length : Int) = A := by
        unfold cut
        rw [Int.toNat_natCast, List.take_left]
        rfl
      have c2 : cut (A ++ a :: B) ((A.length + 1 : Nat) : Int) ((A ++ a :: B).length : Int) = B := by
        unfold cut
        rw [Int.toNat_natCast, Int.toNat_natCast, List.take_length, show A.length + 1 = (A ++ [a]).length by simp, show A ++ a :: B = (A ++ [a]) ++ B by simp, List.drop_left]
      dsimp only
      rw [w1, c1, c2, without_cut hr.nodup]
      repeat (first | refine EvP.some ?_ | refine EvP.chk1 (by (try rw [hm]); (try simp); omega) ?_ | refine EvP.chk3 (by omega) (by omega) (by omega) ?_ | refine EvP.chk2 (by omega) (by omega) ?_)
      simp
/-- The set with a text more. -/
def withT (l : List ByteArray) (a : ByteArray) : List ByteArray := l.filter (fun x => sltB x a) ++ a :: l.filter (fun x => !(sltB x a))
theorem with_cut {l : List ByteArray} {a : ByteArray} {k : Nat} (h : At l a k) (hk : k ≤ l.length) : withT l a = l.take k ++ a :: l.drop k := by
  have hl : ∀ x ∈ l.take k, sltB x a = true := fun x hx => by
    obtain ⟨i, hi, rfl⟩ := List.getElem_of_mem hx
    have hi2 : i < k := by rw [List.length_take] at hi; omega
    have := h.1 i hi2
    rw [List.getD_eq_getElem?_getD, List.getElem?_eq_getElem (by omega)] at this
    rw [List.getElem_take]
    exact this
  have hr : ∀ x ∈ l.drop k, sltB x a = false := fun x hx => by
    obtain ⟨i, hi, rfl⟩ := List.getElem_of_mem hx
    rw [List.length_drop] at hi
    have := h.2 (k + i) (by omega) (by omega)
    rw [List.getD_eq_getElem?_getD, List.getElem?_eq_getElem (by omega)] at this
    rw [List.getElem_drop]
    exact this
  have f1 : l.filter (fun x => sltB x a) = l.take k := by
    conv => lhs; rw [← List.take_append_drop k l]
    rw [List.filter_append, List.filter_eq_self.2 hl, List.filter_eq_nil_iff.2 (fun x hx => by rw [hr x hx]; decide), List.append_nil]
  have f2 : l.filter (fun x => !(sltB x a)) = l.drop k := by
    conv => lhs; rw [← List.take_append_drop k l]
    rw [List.filter_append, List.filter_eq_nil_iff.2 (fun x hx => by rw [hl x hx]; decide), List.nil_append, List.filter_eq_self.2 (fun x hx => by rw [hr x hx]; rfl)]
  unfold withT
  rw [f1, f2]
theorem with_mem {l : List ByteArray} {a x : ByteArray} : x ∈ withT l a ↔ x = a ∨ x ∈ l := by
  unfold withT
  rw [List.mem_append, List.mem_cons, List.mem_filter, List.mem_filter]
  cases sltB x a <;> simp <;> exact Or.comm
theorem with_len (l : List ByteArray) (a : ByteArray) : (withT l a).length = l.length + 1 := by
  have : ∀ l : List ByteArray, (l.filter (fun x => sltB x a)).length + (l.filter (fun x => !(sltB x a))).length = l.length := by
    intro l
    induction l with
    | nil => rfl
    | cons x l ih =>
      rw [List.filter_cons, List.filter_cons]
      cases sltB x a <;> simp <;> omega
  unfold withT
  rw [List.length_append, List.length_cons]
  have := this l
  omega
theorem with_rise {l : List ByteArray} {a : ByteArray} (h : Rise l) (ha : a ∉ l) : Rise (withT l a) := by
  refine List.pairwise_append.2 ⟨List.Pairwise.filter _ h, List.pairwise_cons.2 ⟨fun b hb => ?_, List.Pairwise.filter _ h⟩, fun x hx y hy => ?_⟩
  · obtain ⟨h1, h2⟩ := List.mem_filter.1 hb
    have h2 : sltB b a = false := by simpa using h2
    exact slt_tri h2 fun e => ha (e ▸ h1)
  · have h1 := (List.mem_filter.1 hx).2
    rcases List.mem_cons.1 hy with rfl | hy
    · exact h1
    · obtain ⟨h3, h4⟩ := List.mem_filter.1 hy
      have h4 : sltB y a = false := by simpa using h4
      exact slt_trans h1 (slt_tri h4 fun e => ha (e ▸ h3))
def okA (l : List ByteArray) (a : ByteArray) : Bool := glB l && (gb a && (!(hasB l a) && decide (l.length < 12)))
def addF (l : List ByteArray) (a : ByteArray) : LRes := if okA l a = true then (((), (true, ())), (withT l a, ())) else noR
theorem with_good {l : List ByteArray} {a : ByteArray} (h : okA l a = true) : glB (withT l a) = true := by
  have h : glB l = true ∧ gb a = true ∧ a ∉ l ∧ l.length < 12 := by simpa [okA, hasB_no] using h
  obtain ⟨h0, h1, h2, h3⟩ := h
  obtain ⟨g1, g2, g3⟩ := (glB_iff l).1 h0
  refine (glB_iff _).2 ⟨fun x hx => ?_, with_rise g2 h2, by rw [with_len]; omega⟩
  rcases with_mem.1 hx with rfl | hx
  · exact h1
  · exact g1 x hx
theorem AddA {l : List ByteArray} (hl : l.length ≤ 1000000) (hs : Small l) (a : ByteArray) (ha : a.size ≤ 1000) : EvP (fun N => impl_AddBackend N l a) (· = addF l a) := by
  have hm : (most : Nat) = 68719476736 := rfl
  unfold addF
  refine EvP.of (fun N => impl_AddBackend.eq N _ _) (EvP.andK (bs_ok l hl a) ?_)
  rintro r ⟨k, h1, rfl, h2⟩
  refine EvP.to (a := ((!(okA l a), ()), ())) (EvP.to (goodI _ hl hs) ?_) ?_
  · dsimp only
    refine EvP.sel (fun e => EvP.some ?_) (fun e => EvP.to (impl_gb a ha) (EvP.sel (fun e2 => EvP.some ?_) (fun e2 => ?_)))
    · have e : glB l = false := by simpa using e
      simp [okA, e]
    · have e2 : gb a = false := by simpa using e2
      simp [okA, e2]
    · have e : glB l = true := by simpa using e
      have e2 : gb a = true := by simpa using e2
      have hr := ((glB_iff l).1 e).2.1
      rw [dec_has (at_has hr (h2 hr))]
      refine EvP.sel (fun g => EvP.some ?_) (fun g => EvP.some ?_)
      · simp [okA, g]
      · simp only [okA, e, e2, Bool.true_and, g, Bool.not_false]
        by_cases g4 : l.length < 12
        · rw [decide_eq_true g4, decide_eq_false (by omega)]; rfl
        · rw [decide_eq_false g4, decide_eq_true (by omega)]; rfl
  · refine EvP.sel (fun e => EvP.some ?_) (fun e => ?_)
    · have e : okA l a = false := by simpa using e
      rw [e]
      rfl
    · have e : okA l a = true := by simpa using e
      rw [if_pos e]
      have h : glB l = true ∧ gb a = true ∧ a ∉ l ∧ l.length < 12 := by simpa [okA, hasB_no] using e
      have hr := ((glB_iff l).1 h.1).2.1
      refine EvP.to (a := (((), ()), (l, ()))) (EvP.of (fun N => slices_Clonestring_string.eq N _) (EvP.chk1 (by rw [hm]; omega) (EvP.some rfl))) ?_
      dsimp only
      refine EvP.to (a := (((), ()), (withT l a, ([a], ())))) (EvP.of (fun N => slices_Insertstring_string.eq N _ _ _) (EvP.chk1 (by omega) (EvP.chk1 (by omega) (EvP.chk1 (by simp) (EvP.chk1 (by simp; omega) (EvP.some ?_)))))) (EvP.some rfl)
      rw [with_cut (h2 hr) h1]
      unfold insL
      rw [Int.toNat_natCast]
      simp
theorem AddB {l : List ByteArray} (hl : l.length ≤ 1000000) (hs : Small l) (a : ByteArray) (ha : a.size ≤ 1000) : EvP (fun N => spec_AddBackend N l a) (· = addF l a) := by
  have hm : (most : Nat) = 68719476736 := rfl
  unfold addF
  refine EvP.of (fun N => spec_AddBackend.eq N _ _) (EvP.andK (l9_ok l hl a) ?_)
  rintro r ⟨k, h1, rfl, h2⟩
  refine EvP.to (a := ((!(okA l a), ()), ())) (EvP.to (goodS _ hl hs) ?_) ?_
  · dsimp only
    refine EvP.sel (fun e => EvP.some ?_) (fun e => ?_)
    · have e : glB l = false := by simpa using e
      simp [okA, e]
    · have e : glB l = true := by simpa using e
      have hr := ((glB_iff l).1 e).2.1
      have hlen := ((glB_iff l).1 e).2.2
      rw [dec_has (at_has hr (h2 hr))]
      refine EvP.sel (fun g => EvP.some ?_) (fun g => EvP.to (spec_gb a ha) (EvP.sel (fun e2 => EvP.some ?_) (fun e2 => EvP.some ?_)))
      · simp [okA, g]
      · have e2 : gb a = false := by simpa using e2
        simp [okA, e2]
      · have e2 : gb a = true := by simpa using e2
        simp only [okA, e, e2, Bool.true_and, g, Bool.not_false]
        by_cases g4 : l.length < 12
        · rw [decide_eq_true g4, decide_eq_false (by omega)]; rfl
        · rw [decide_eq_false g4, decide_eq_true (by omega)]; rfl
  · refine EvP.sel (fun e => EvP.some ?_) (fun e => ?_)
    · have e : okA l a = false := by simpa using e
      rw [e]
      rfl
    · have e : okA l a = true := by simpa using e
      rw [if_pos e]
      have h : glB l = true ∧ gb a = true ∧ a ∉ l ∧ l.length < 12 := by simpa [okA, hasB_no] using e
      have hr := ((glB_iff l).1 h.1).2.1
      have c1 : cut l 0 (k : Int) = l.take k := by
        unfold cut
        rw [Int.toNat_natCast]
        rfl
      have c2 : cut l (k : Int) (l.length : Int) = l.drop k := by
        unfold cut
        rw [Int.toNat_natCast, Int.toNat_natCast, List.take_length]
      dsimp only
      rw [c1, c2, with_cut (h2 hr) h1]
      refine EvP.chk2 (by omega) (by omega) (EvP.chk1 (by rw [hm]; simp; omega) (EvP.chk1 (by rw [hm]; simp; omega) (EvP.chk3 (by omega) (by omega) (by omega) (EvP.chk1 (by rw [hm]; simp; omega) (EvP.some ?_)))))
      simp
end Go.Proofs.YthkjjombaoffcaaGreatDoor.CFnRendezvous
