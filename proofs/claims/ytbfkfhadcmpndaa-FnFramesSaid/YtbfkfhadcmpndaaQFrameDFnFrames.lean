/- What is a good frame: both packages' answers. -/
import Derived.Test.YtbfkfhadcmpndaaQFrameRFnFrames
set_option linter.unusedVariables false
set_option linter.unusedSimpArgs false
namespace Go.Proofs.Ytbfkfhadcmpndaa.CFnFrames
open Go Go.Proofs Go.Proofs.YtbfkfhadcmpndaaPM Go.Proofs.Ytbfkfhadcmpndaa.Q Go.Proofs.Ytbfkfhadcmpndaa.GFnFrames

def extB (k a b c : Int) (d : ByteArray) (r : List (Int × Int)) : Bool :=
  if k = 2 then decide (1 ≤ (r.length : Int) ∧ (r.length : Int) ≤ 20) && rngB topP r
  else if k = 6 then decide (VarN (a + (d.size : Int))) else if k = 7 then !decide (d = nilS) else if k = 8 then decide (VarN (b + (d.size : Int)))
  else if k = 24 then decide (b ≤ a) && (decide (1 ≤ (d.size : Int) ∧ (d.size : Int) ≤ 20) && decide (c ≤ 255))
  else if k = 26 ∨ k = 27 then decide ((d.size : Int) = 8) else true
def goodB (k a b c : Int) (fin : Bool) (d : ByteArray) (r : List (Int × Int)) : Bool := namedB k a b c fin d r && extB k a b c d r
theorem named_f {k a b c : Int} {fin : Bool} {d : ByteArray} {r : List (Int × Int)} (h : namedB k a b c fin d r = true) : hasM k shapeT = true ∧ (d.size : Int) ≤ 200 ∧ VarN a ∧ VarN b ∧ VarN c := by
  simp only [namedB, preB, numB, Bool.and_eq_true, decide_eq_true_eq] at h
  exact ⟨h.1.1, by have := h.1.2.1; omega, h.2.1.1, h.2.2.1.1, h.2.2.2.1⟩
theorem Good_impl {k : Int} (hk : -9223372036854775808 ≤ k ∧ k ≤ 9223372036854775807) (a b c : Int) (fin : Bool) (d : ByteArray) (r : List (Int × Int)) (hr : (r.length : Int) ≤ 4611686018427387903) :
    EvP (fun N => impl_GoodFrame N k a b c fin d r) (· = ((goodB k a b c fin d r, ()), ())) := by
  refine EvP.of (fun N => impl_GoodFrame.eq N _ _ _ _ _ _ _) (EvP.to (named_ok hk _ _ _ _ _ _) ?_)
  unfold goodB
  cases hn : namedB k a b c fin d r with
  | false => exact EvP.yes rfl (EvP.some rfl)
  | true =>
    obtain ⟨_, hd, ⟨a1, a2⟩, ⟨b1, b2⟩, _⟩ := named_f hn
    have hv : ∀ x y : Int, 0 ≤ x ∧ x ≤ 4611686018427387903 → 0 ≤ y ∧ y ≤ 200 → IntKind.i64.wrap (x + y) = x + y := fun x y h1 h2 => i64w (by omega) (by omega)
    refine EvP.no rfl ?_
    dsimp only [mkF]
    simp only [Bool.true_and, hv a (d.size : Int) ⟨a1, a2⟩ (by omega), hv b (d.size : Int) ⟨b1, b2⟩ (by omega)]
    unfold extB
    refine EvP.ite (fun e => ?_) (fun e => ?_)
    · rw [if_pos e]
      refine EvP.to (in_i _ _ _) (EvP.sel (fun h => EvP.to (ranges_impl r hr) (EvP.some ?_)) (fun h => EvP.some ?_))
      · have h : decide (1 ≤ (r.length : Int) ∧ (r.length : Int) ≤ 20) = true := h
        rw [h, Bool.true_and]
      · have h : decide (1 ≤ (r.length : Int) ∧ (r.length : Int) ≤ 20) = false := h
        rw [h, Bool.false_and]
    rw [if_neg e]
    refine EvP.ite (fun e => ?_) (fun e => ?_)
    · rw [if_pos e]
      exact EvP.to (isVarint_i _) (EvP.some rfl)
    rw [if_neg e]
    refine EvP.ite (fun e => ?_) (fun e => ?_)
    · rw [if_pos e]
      exact EvP.some rfl
    rw [if_neg e]
    refine EvP.ite (fun e => ?_) (fun e => ?_)
    · rw [if_pos e]
      exact EvP.to (isVarint_i _) (EvP.some rfl)
    rw [if_neg e]
    refine EvP.ite (fun e => ?_) (fun e => ?_)
    · rw [if_pos e]
      refine EvP.ite (fun h => EvP.to (in_i _ _ _) (EvP.sel (fun h2 => EvP.some ?_) (fun h2 => EvP.some ?_))) (fun h => EvP.some ?_)
      · have h2 : decide (1 ≤ (d.size : Int) ∧ (d.size : Int) ≤ 20) = true := h2
        rw [decide_eq_true h, h2]; rfl
      · have h2 : decide (1 ≤ (d.size : Int) ∧ (d.size : Int) ≤ 20) = false := h2
        rw [decide_eq_true h, h2]; rfl
      · rw [decide_eq_false h]; rfl
    rw [if_neg e]
    refine EvP.ite (fun e => ?_) (fun e => ?_)
    · rw [if_pos (Or.inl e)]
      exact EvP.pos e (EvP.some rfl)
    refine EvP.ite (fun e2 => ?_) (fun e2 => ?_)
    · rw [if_pos (Or.inr e2)]
      exact EvP.some rfl
    · rw [if_neg (by omega)]
      exact EvP.some rfl
theorem selN {β : Type} {P : β → Prop} {B : Bool} {a b : Nat → Option β} (h : B = false → EvP a P) (k : B = true → EvP b P) : EvP (fun n => YtbfkfhadcmpndaaPM.sel (!B) (a n) (b n)) P := by
  cases B with
  | false => exact h rfl
  | true => exact k rfl
/-- The other package's answer, by a kind's numbers and bounds. -/
def specB (m lo hi : Int) (k a b c : Int) (fin : Bool) (d : ByteArray) (r : List (Int × Int)) : Bool :=
  (decide (¬ m < 0) && (decide (VarN a) && (decide (VarN b) && (decide (VarN c) && (decide (lo ≤ (d.size : Int) ∧ (d.size : Int) ≤ hi) && (!fin || decide (k = 8))))))) &&
  (((decide (¬ m < 3) || decide (c = 0)) && ((decide (¬ m < 2) || decide (b = 0)) && (decide (¬ m < 1) || decide (a = 0)))) &&
  ((decide (k = 2) == decide (0 < (r.length : Int))) && ((!decide (k = 2) || (rngB topP r && decide (1 ≤ (r.length : Int) ∧ (r.length : Int) ≤ 20))) &&
  (if k = 6 then decide (a ≤ 4611686018427387903 - (d.size : Int)) else if k = 8 then decide (b ≤ 4611686018427387903 - (d.size : Int)) else if k = 24 then decide (b ≤ a) && decide (c ≤ 255) else true))))
theorem Good_spec' {m lo hi k : Int} (hs : EvP (fun N => spec_l1Shape N k) (· = ((m, (lo, (hi, ()))), ()))) (hh : hi ≤ 200) (a b c : Int) (fin : Bool) (d : ByteArray) (r : List (Int × Int)) (hr : (r.length : Int) ≤ 4611686018427387903) :
    EvP (fun N => spec_GoodFrame N k a b c fin d r) (· = ((specB m lo hi k a b c fin d r, ()), ())) := by
  refine EvP.of (fun N => spec_GoodFrame.eq N _ _ _ _ _ _ _) (EvP.to hs ?_)
  unfold specB
  refine EvP.to (a := (((), (!(decide (¬ m < 0) && (decide (VarN a) && (decide (VarN b) && (decide (VarN c) && (decide (lo ≤ (d.size : Int) ∧ (d.size : Int) ≤ hi) && (!fin || decide (k = 8))))))), ())), (mkF k a b c fin d r, ()))) ?_ ?_
  · refine EvP.ite (fun h => EvP.some ?_) (fun h => EvP.to (known_s a) (EvP.sel (fun h2 => EvP.some ?_) (fun h2 => EvP.to (known_s b) (EvP.sel (fun h3 => EvP.some ?_) (fun h3 => EvP.to (known_s c) (EvP.sel (fun h4 => EvP.some ?_) (fun h4 => EvP.to (in_s _ _ _) (EvP.sel (fun h5 => EvP.some ?_) (fun h5 => EvP.sel (fun h6 => EvP.some ?_) (fun h6 => EvP.some ?_))))))))))
    all_goals simp_all [mkF]
  refine selN (fun h => EvP.some ?_) (fun h => ?_)
  · rw [h, Bool.false_and]
  rw [h, Bool.true_and]
  have hd : (d.size : Int) ≤ 200 := by
    simp only [Bool.and_eq_true, decide_eq_true_eq] at h
    have := h.2.2.2.2.1.2
    omega
  refine EvP.to (a := (((), (!((decide (¬ m < 3) || decide (c = 0)) && ((decide (¬ m < 2) || decide (b = 0)) && (decide (¬ m < 1) || decide (a = 0)))), ())), (mkF k a b c fin d r, ()))) ?_ ?_
  · refine EvP.ite (fun h1 => EvP.nite (fun h2 => EvP.some ?_) (fun h2 => EvP.ite (fun h3 => EvP.nite (fun h4 => EvP.some ?_) (fun h4 => EvP.ite (fun h5 => EvP.some ?_) (fun h5 => EvP.some ?_))) (fun h3 => EvP.ite (fun h5 => EvP.some ?_) (fun h5 => EvP.some ?_))))
      (fun h1 => EvP.ite (fun h3 => EvP.nite (fun h4 => EvP.some ?_) (fun h4 => EvP.ite (fun h5 => EvP.some ?_) (fun h5 => EvP.some ?_))) (fun h3 => EvP.ite (fun h5 => EvP.some ?_) (fun h5 => EvP.some ?_)))
    all_goals (dsimp only [mkF] at *; simp [*] <;> rfl)
  refine selN (fun h => EvP.some ?_) (fun h => ?_)
  · rw [h, Bool.false_and]
  rw [h, Bool.true_and]
  refine EvP.to (a := (((), (!((decide (k = 2) == decide (0 < (r.length : Int))) && (!decide (k = 2) || (rngB topP r && decide (1 ≤ (r.length : Int) ∧ (r.length : Int) ≤ 20)))), ())), (mkF k a b c fin d r, ()))) ?_ ?_
  · refine selN (fun h1 => EvP.some ?_) (fun h1 => EvP.ite (fun h2 => EvP.to (ranges_spec r hr) (EvP.some ?_)) (fun h2 => EvP.some ?_))
    · have h1 : (decide (k = 2) == decide (0 < (r.length : Int))) = false := h1
      rw [h1, Bool.false_and]; rfl
    · have h1 : (decide (k = 2) == decide (0 < (r.length : Int))) = true := h1
      rw [h1, Bool.true_and, decide_eq_true (show k = 2 from h2)]; rfl
    · have h1 : (decide (k = 2) == decide (0 < (r.length : Int))) = true := h1
      rw [h1, Bool.true_and, decide_eq_false (show ¬ k = 2 from h2)]; rfl
  rw [← Bool.and_assoc (decide (k = 2) == decide (0 < (r.length : Int)))]
  refine selN (fun h => EvP.some ?_) (fun h => ?_)
  · rw [h, Bool.false_and]
  rw [h, Bool.true_and]
  dsimp only [mkF]
  simp only [i64w (n := 4611686018427387903 - (d.size : Int)) (by omega) (by omega)]
  refine EvP.ite (fun e => EvP.some ?_) (fun e => EvP.ite (fun e2 => EvP.some ?_) (fun e2 => EvP.ite (fun e3 => EvP.ite (fun h => EvP.some ?_) (fun h => EvP.some ?_)) (fun e3 => EvP.some ?_)))
  · rw [if_pos e]
  · rw [if_neg e, if_pos e2]
  · rw [if_neg e, if_neg e2, if_pos e3, decide_eq_true h]; rfl
  · rw [if_neg e, if_neg e2, if_pos e3, decide_eq_false h]; rfl
  · rw [if_neg e, if_neg e2, if_neg e3]
/-- How many numbers a kind has, and how long its data may be. -/
def specT : List (Int × (Int × (Int × Int))) := [(0, (0, (0, 0))), (1, (0, (0, 0))), (16, (1, (0, 0))), (2, (1, (0, 0))), (17, (2, (0, 0))), (5, (2, (0, 0))), (4, (3, (0, 0))), (28, (2, (0, 200))), (8, (2, (0, 200))), (6, (1, (0, 200))), (7, (0, (1, 200))), (24, (3, (1, 20))), (26, (0, (8, 8))), (27, (0, (8, 8))), (48, (0, (0, 200)))]
theorem tab_all : ∀ x ∈ specT, EvP (fun N => spec_l1Shape N x.1) (· = ((x.2.1, (x.2.2.1, (x.2.2.2, ()))), ())) ∧ x.2.2.2 ≤ 200 ∧ ∀ (a b c : Int) (fin : Bool) (d : ByteArray) (r : List (Int × Int)), specB x.2.1 x.2.2.1 x.2.2.2 x.1 a b c fin d r = goodB x.1 a b c fin d r := by
  have hz : ∀ d : ByteArray, decide (d = nilS) = decide ((d.size : Int) = 0) := fun d => dec_eq (fun h => by rw [h]; rfl) (fun h => size_zero (by omega))
  have hb : ∀ x y : Bool, (x = true ↔ y = true) → x = y := fun x y h => by cases x <;> cases y <;> simp at h ⊢
  simp only [specT, List.mem_cons, List.not_mem_nil, or_false, forall_eq_or_imp, forall_eq]
  refine ⟨?_, ?_, ?_, ?_, ?_, ?_, ?_, ?_, ?_, ?_, ?_, ?_, ?_, ?_, ?_⟩
  all_goals
    refine ⟨EvP.of (fun N => spec_l1Shape.eq N _) (EvP.some rfl), by decide, fun a b c fin d r => hb _ _ ?_⟩
    unfold specB goodB namedB preB numB extB
    simp only [hz, show hasM 48 shapeT = true from rfl, show shp 48 = (0, true) from rfl, show hasM 28 shapeT = true from rfl, show shp 28 = (2, true) from rfl, show hasM 27 shapeT = true from rfl, show shp 27 = (0, true) from rfl, show hasM 26 shapeT = true from rfl, show shp 26 = (0, true) from rfl, show hasM 24 shapeT = true from rfl, show shp 24 = (3, true) from rfl, show hasM 17 shapeT = true from rfl, show shp 17 = (2, false) from rfl, show hasM 16 shapeT = true from rfl, show shp 16 = (1, false) from rfl, show hasM 8 shapeT = true from rfl, show shp 8 = (2, true) from rfl, show hasM 7 shapeT = true from rfl, show shp 7 = (0, true) from rfl, show hasM 6 shapeT = true from rfl, show shp 6 = (1, true) from rfl, show hasM 5 shapeT = true from rfl, show shp 5 = (2, false) from rfl, show hasM 4 shapeT = true from rfl, show shp 4 = (3, false) from rfl, show hasM 2 shapeT = true from rfl, show shp 2 = (1, false) from rfl, show hasM 1 shapeT = true from rfl, show shp 1 = (0, false) from rfl, show hasM 0 shapeT = true from rfl, show shp 0 = (0, false) from rfl]
    have h1 : 0 ≤ (d.size : Int) := by omega
    have h2 : 0 ≤ (r.length : Int) := by omega
    generalize (d.size : Int) = z at h1 ⊢
    generalize (r.length : Int) = n at h2 ⊢
    generalize rngB topP r = x
    unfold VarN
    cases fin <;> cases x <;> simp <;> grind
theorem Good_spec (k a b c : Int) (fin : Bool) (d : ByteArray) (r : List (Int × Int)) (hr : (r.length : Int) ≤ 4611686018427387903) : EvP (fun N => spec_GoodFrame N k a b c fin d r) (· = ((goodB k a b c fin d r, ()), ())) := by
  by_cases h : ∃ x ∈ specT, x.1 = k
  · obtain ⟨x, hx, rfl⟩ := h
    obtain ⟨t1, t2, t3⟩ := tab_all x hx
    rw [← t3]
    exact Good_spec' t1 t2 a b c fin d r hr
  · have hn : ∀ x ∈ specT, k ≠ x.1 := fun x hx e => h ⟨x, hx, e.symm⟩
    simp only [specT, List.mem_cons, List.not_mem_nil, or_false, forall_eq_or_imp, forall_eq] at hn
    obtain ⟨n1, n2, n3, n4, n5, n6, n7, n8, n9, n10, n11, n12, n13, n14, n15⟩ := hn
    have hh : hasM k shapeT = false := by
      simp only [hasM, shapeT, findM]
      simp [*, eq_comm]
    have hs : EvP (fun N => spec_l1Shape N k) (· = (((-1), (0, (0, ()))), ())) := by
      refine EvP.of (fun N => spec_l1Shape.eq N _) ?_
      repeat refine EvP.neg (by omega) ?_
      exact EvP.some rfl
    have hg : goodB k a b c fin d r = false := by
      unfold goodB namedB preB
      rw [hh]
      rfl
    rw [hg]
    exact Good_spec' hs (by decide) a b c fin d r hr
end Go.Proofs.Ytbfkfhadcmpndaa.CFnFrames
