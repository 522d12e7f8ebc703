/- Who is picked of any set; which keys move. -/
import Derived.Test.YthkjjombaoffcaaGreatDoorQRnkZFnRendezvous
set_option linter.unusedVariables false
set_option linter.unusedSimpArgs false
namespace Go.Proofs.YthkjjombaoffcaaGreatDoor.CFnRendezvous
open Go Go.Proofs Go.Proofs.YthkjjombaoffcaaGreatDoorPM Go.Proofs.YthkjjombaoffcaaGreatDoor.Q Go.Proofs.YthkjjombaoffcaaGreatDoor.GFnRendezvous

abbrev PRes : Type := (ByteArray × (Bool × Unit)) × Unit
def okP (l : List ByteArray) (k : ByteArray) : Bool := okR l k && decide (0 < l.length)
def headOf (f : ByteArray → Int) (l : List ByteArray) : ByteArray := (isort f l).getD 0 ⟨#[]⟩
def pickF (f : ByteArray → Int) (l : List ByteArray) (k : ByteArray) : PRes := if okP l k = true then ((headOf f l, (true, ())), ()) else (((⟨#[]⟩ : ByteArray), (false, ())), ())
theorem head_ex (f : ByteArray → Int) {l : List ByteArray} (h : 0 < l.length) : ∃ t, isort f l = headOf f l :: t := by
  have hl := isort_len f l
  unfold headOf
  cases e : isort f l with
  | nil => rw [e] at hl; simp at hl; omega
  | cons a t => exact ⟨t, rfl⟩
theorem PickA {f : ByteArray → Int} {k : ByteArray} (hk : ScI k f) {l : List ByteArray} (hl : l.length ≤ 1000000) (hs : Small l) : EvP (fun N => impl_PickBackend N l k) (· = pickF f l k) := by
  unfold pickF
  by_cases h : okP l k = true
  · rw [if_pos h]
    have h : okR l k = true ∧ 0 < l.length := by simpa [okP] using h
    obtain ⟨t, ht⟩ := head_ex f h.2
    exact PickI hk hl hs h.1 ht
  · rw [if_neg h]
    refine EvP.of (fun N => impl_PickBackend.eq N _ _) (EvP.to (a := ((true, ()), ())) (EvP.to (goodI l hl hs) ?_) (EvP.yes rfl (EvP.some rfl)))
    dsimp only
    refine EvP.sel (fun e => EvP.some rfl) (fun e => EvP.ite (fun g => EvP.some rfl) (fun g => EvP.to (keyI k) (EvP.some ?_)))
    have e : glB l = true := by simpa using e
    have : ¬ (k.size : Int) ≤ 100 := fun g2 => h (by simp only [okP, okR, e, Bool.true_and, decide_eq_true g2]; exact decide_eq_true (by omega))
    rw [decide_eq_false this]
    rfl
theorem pick_l {f : ByteArray → Int} {k : ByteArray} (hk : ScS k f) (hp : ∀ x, 0 ≤ f x) {l : List ByteArray} (hl : l.length ≤ 1000000) (hs : Small l) : ∀ (d i : Nat) (best : ByteArray) (most : Int), i + d = l.length → ((i = 0 ∧ best = ⟨#[]⟩ ∧ most = -1) ∨ (0 < i ∧ best = headOf f (l.take i) ∧ most = f best)) →
    EvP (fun N => spec_l9Pick.l0 N k l (l.length : Int) best most (i : Int) K64 H8) (· = ((headOf f l, ()), ((K64, (H8, ())), ())))
  | 0, i, best, most, h, hb => by
    refine EvP.step (fun N => spec_l9Pick.l0.eq N _ _ _ _ _ _ _ _) (EvP.neg (by omega) (EvP.some ?_))
    rcases hb with ⟨h1, h2, _⟩ | ⟨h1, h2, _⟩
    · have : l = [] := List.eq_nil_of_length_eq_zero (by omega)
      subst this
      rw [h2]
      rfl
    · rw [h2, List.take_of_length_le (by omega)]
  | d + 1, i, best, most, h, hb => by
    have hi : i < l.length := by omega
    have ht : l.take (i + 1) = l.take i ++ [l[i]] := by rw [List.take_add_one, List.getElem?_eq_getElem hi]; rfl
    have hx : l.getD (Int.toNat (i : Int)) ⟨#[]⟩ = l[i] := by rw [Int.toNat_natCast, List.getD_eq_getElem?_getD, List.getElem?_eq_getElem hi]; rfl
    have hsx : (l[i]).size ≤ 1000 := hs _ (List.getElem_mem hi)
    have w1 : IntKind.i64.wrap ((i : Int) + 1) = ((i + 1 : Nat) : Int) := by rw [i64w (by omega) (by omega)]; omega
    refine EvP.step (fun N => spec_l9Pick.l0.eq N _ _ _ _ _ _ _ _) (EvP.pos (by omega) ?_)
    rw [hx, w1]
    -- the next best
    have next : ∃ b' : ByteArray, (if most < f l[i] then l[i] else best) = b' ∧ (if most < f l[i] then f l[i] else most) = f b' ∧ b' = headOf f (l.take (i + 1)) := by
      rw [ht]
      unfold headOf
      rw [isort_snoc]
      rcases hb with ⟨h1, h2, h3⟩ | ⟨h1, h2, h3⟩
      · subst h1 h3
        have := hp l[0]
        rw [if_pos (by omega), if_pos (by omega)]
        exact ⟨_, rfl, rfl, rfl⟩
      · obtain ⟨t, e⟩ := head_ex f (l := l.take i) (by rw [List.length_take]; omega)
        rw [← h2] at e
        rw [e, ins]
        by_cases g : most < f l[i]
        · rw [if_pos g, if_pos g, if_neg (by omega)]
          exact ⟨_, rfl, rfl, rfl⟩
        · rw [if_neg g, if_neg g, if_pos (by omega)]
          exact ⟨_, rfl, h3, rfl⟩
    obtain ⟨b', n1, n2, n3⟩ := next
    refine EvP.to (a := ((b', (f b', ((), ()))), ((K64, (H8, ())), ()))) (EvP.chk2 (by omega) (by omega) (EvP.to (hk _ hsx) (EvP.ite (fun g => EvP.some ?_) (fun g => EvP.some ?_)))) ?_
    · rw [if_pos g] at n1 n2
      rw [← n2, ← n1]
    · rw [if_neg g] at n1 n2
      rw [← n2, ← n1]
    · exact pick_l hk hp hl hs d (i + 1) b' (f b') (by omega) (.inr ⟨by omega, n3, rfl⟩)
theorem PickB {f : ByteArray → Int} {k : ByteArray} (hk : ScS k f) (hp : ∀ x, 0 ≤ f x) {l : List ByteArray} (hl : l.length ≤ 1000000) (hs : Small l) : EvP (fun N => spec_PickBackend N l k) (· = pickF f l k) := by
  unfold pickF
  refine EvP.of (fun N => spec_PickBackend.eq N _ _) (EvP.to (a := ((!(okP l k), ()), ())) (EvP.to (goodS l hl hs) ?_) ?_)
  · dsimp only
    refine EvP.sel (fun e => EvP.some ?_) (fun e => ?_)
    · have e : glB l = false := by simpa using e
      simp [okP, okR, e]
    · have e : glB l = true := by simpa using e
      refine EvP.ite (fun g => EvP.some ?_) (fun g => EvP.some ?_)
      · have : ¬ 0 < l.length := by omega
        simp only [okP, decide_eq_false this, Bool.and_false]
        rfl
      · have : 0 < l.length := by omega
        simp only [okP, okR, e, decide_eq_true this, Bool.and_true, Bool.true_and]
        by_cases g2 : (k.size : Int) ≤ 100
        · rw [decide_eq_true g2, decide_eq_false (by omega)]; rfl
        · rw [decide_eq_false g2, decide_eq_true (by omega)]; rfl
  · refine EvP.sel (fun e => EvP.some ?_) (fun e => ?_)
    · have e : okP l k = false := by simpa using e
      rw [e]
      rfl
    · have e : okP l k = true := by simpa using e
      rw [if_pos e]
      refine EvP.to (a := ((headOf f l, ()), ())) (EvP.of (fun N => spec_l9Pick.eq N _ _) (EvP.to new_spec (EvP.to (pick_l hk hp hl hs l.length 0 ⟨#[]⟩ (-1) (by omega) (.inl ⟨rfl, rfl, rfl⟩)) (EvP.some rfl)))) (EvP.some rfl)
/-- Of one key that is not too long: it moves if the first in rank is another. -/
theorem Moved {f : ByteArray → Int} {k : ByteArray} (hk : ScI k f) (hk1 : (k.size : Int) ≤ 100) {l x : List ByteArray} (hl : l.length ≤ 12) (hx : x.length ≤ 12) (hs : Small l) (hs2 : Small x) (g1 : glB l = true) (g2 : glB x = true) (p1 : 0 < l.length) (p2 : 0 < x.length) :
    EvP (fun N => impl_MovedKeys N l x [k]) (· = (((), (true, ())), (if headOf f l = headOf f x then [] else [k], ()))) := by
  have hm : (most : Nat) = 68719476736 := rfl
  refine EvP.of (fun N => impl_MovedKeys.eq N _ _ _) ?_
  refine EvP.to (a := ((false, ()), ())) (EvP.of (fun N => slices_ContainsFuncstring_string.eq N _) (EvP.to (a := (((-1 : Int), ()), ())) (EvP.of (fun N => slices_IndexFuncstring_string.eq N _) (EvP.to (a := .inr ((), ())) ?_ (EvP.inr (EvP.some rfl)))) (EvP.some rfl))) ?_
  · refine EvP.step (fun N => slices_IndexFuncstring_string.l0.eq N _ _ _) (EvP.pos (by simp) (EvP.chk2 (by omega) (by simp) (EvP.to (a := ((false, ()), ())) (EvP.of (fun N => impl_MovedKeys_1.eq N _) (EvP.to (keyI _) (EvP.some ?_))) (EvP.no rfl ?_))))
    · show ((!(decide ((k.size : Int) ≤ 100)), ()), ()) = _
      rw [decide_eq_true hk1]
      rfl
    · exact EvP.step (fun N => slices_IndexFuncstring_string.l0.eq N _ _ _) (EvP.neg (by show ¬ IntKind.i64.wrap (0 + 1) < (1 : Int); decide) (EvP.some rfl))
  · refine EvP.to (a := ((false, ()), ())) (EvP.to (goodI l (by omega) hs) ?_) (EvP.no rfl ?_)
    · dsimp only
      rw [g1]
      refine EvP.no rfl (EvP.to (goodI x (by omega) hs2) ?_)
      dsimp only
      rw [g2]
      exact EvP.no rfl (EvP.neg (by omega) (EvP.neg (by omega) (EvP.neg (by show ¬ (60 : Int) < 1; decide) (EvP.some rfl))))
    · obtain ⟨t1, e1⟩ := head_ex f p1
      obtain ⟨t2, e2⟩ := head_ex f p2
      refine EvP.to (a := (((), ()), (if headOf f l = headOf f x then [] else [k], ()))) ?_ (EvP.some rfl)
      refine EvP.step (fun N => impl_MovedKeys.l0.eq N _ _ _ _ _ _) (EvP.pos (by show (0 : Int) < 1; decide) ?_)
      refine EvP.to (a := ((((), ()), ((if headOf f l = headOf f x then [] else [k], ()))))) (EvP.chk2 (by decide) (by show (0 : Int) < 1; decide) (EvP.to (a := (((), ()), (isort f l, ()))) (rankedI hk l hl hs) (EvP.chk1 (by rw [e1]; simp) (EvP.to (a := (((), ()), (isort f x, ()))) (rankedI hk x hx hs2) (EvP.chk1 (by rw [e2]; simp) ?_))))) ?_
      · refine EvP.nite (fun g => EvP.chk1 (by rw [hm]; decide) (EvP.some ?_)) (fun g => EvP.some ?_)
        · have g : ¬ headOf f l = headOf f x := g
          rw [if_neg g]
          rfl
        · have g : headOf f l = headOf f x := g
          rw [if_pos g]
      · exact EvP.step (fun N => impl_MovedKeys.l0.eq N _ _ _ _ _ _) (EvP.neg (by show ¬ IntKind.i64.wrap (0 + 1) < (1 : Int); decide) (EvP.some rfl))
end Go.Proofs.YthkjjombaoffcaaGreatDoor.CFnRendezvous
