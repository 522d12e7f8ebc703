/- What is a good frame: the program's answer. -/
import Derived.Test.YtbfkfhadcmpndaaQHead
import Derived.Test.YtbfkfhadcmpndaaGFnFramesx0
import Derived.Test.YtbfkfhadcmpndaaGFnFramesx1
set_option linter.unusedVariables false
set_option linter.unusedSimpArgs false
namespace Go.Proofs.Ytbfkfhadcmpndaa.CFnFrames
open Go Go.Proofs Go.Proofs.YtbfkfhadcmpndaaPM Go.Proofs.Ytbfkfhadcmpndaa.Q Go.Proofs.Ytbfkfhadcmpndaa.GFnFrames

theorem in_i (n lo hi : Int) : EvP (fun N => impl_in N n lo hi) (· = ((decide (lo ≤ n ∧ n ≤ hi), ()), ())) := by
  refine EvP.of (fun N => impl_in.eq N _ _ _) (EvP.ite (fun h => EvP.some ?_) (fun h => EvP.some ?_))
  · rw [dec_eq (q := lo ≤ n ∧ n ≤ hi) (fun h2 => ⟨h, h2⟩) (fun h2 => h2.2)]
  · rw [decide_eq_false (show ¬(lo ≤ n ∧ n ≤ hi) from fun h2 => h h2.1)]
def VarN (n : Int) : Prop := 0 ≤ n ∧ n ≤ 4611686018427387903
instance (n : Int) : Decidable (VarN n) := by unfold VarN; infer_instance
theorem isVarint_i (n : Int) : EvP (fun N => impl_isVarint N n) (· = ((decide (VarN n), ()), ())) := EvP.of (fun N => impl_isVarint.eq N _) (EvP.to (in_i _ _ _) (EvP.some rfl))
/-- The shapes of frames: how many numbers, whether data. -/
def shapeT : List (Int × (Int × Bool)) := [(48, (0, true)), (28, (2, true)), (27, (0, true)), (26, (0, true)), (24, (3, true)), (17, (2, false)), (16, (1, false)), (8, (2, true)), (7, (0, true)), (6, (1, true)), (5, (2, false)), (4, (3, false)), (2, (1, false)), (1, (0, false)), (0, (0, false))]
abbrev shp (k : Int) : Int × Bool := getM (0, false) k shapeT
abbrev Fm := Int × (Int × (Int × (Int × (Bool × (ByteArray × (List (Int × Int) × Unit))))))
def mkF (k a b c : Int) (fin : Bool) (d : ByteArray) (r : List (Int × Int)) : Fm := (k, (a, (b, (c, (fin, (d, (r, ())))))))
def preB (k : Int) (fin : Bool) (d : ByteArray) (r : List (Int × Int)) : Bool :=
  hasM k shapeT && (decide (¬ 200 < (d.size : Int)) && (((shp k).2 || decide (d = nilS)) && ((!fin || decide (k = 8)) && (decide (¬ 0 < (r.length : Int)) || decide (k = 2)))))
def numB (m x i : Int) : Bool := decide (VarN x) && (decide (¬ m ≤ i) || decide (x = 0))
def namedB (k a b c : Int) (fin : Bool) (d : ByteArray) (r : List (Int × Int)) : Bool := preB k fin d r && (numB (shp k).1 a 0 && (numB (shp k).1 b 1 && numB (shp k).1 c 2))
theorem named_l0 {l : List Int} (hl : l.length = 3) (f : Fm) (m : Int) (q : Bool) (i : Nat) (hi : i < 3) {P : ((Bool × Unit) × (Fm × ((Int × (Bool × Unit)) × Unit))) ⊕ (Unit × (Fm × ((Int × (Bool × Unit)) × Unit))) → Prop}
    (h : numB m (l.getD i 0) i = false → P (.inl ((false, ()), (f, ((m, (q, ())), ())))))
    (k : numB m (l.getD i 0) i = true → EvP (fun N => impl_Frame_named.l0 N l (((i + 1 : Nat) : Int)) f.1 f.2.1 f.2.2.1 f.2.2.2.1 f.2.2.2.2.1 f.2.2.2.2.2.1 f.2.2.2.2.2.2.1 m q) P) :
    EvP (fun N => impl_Frame_named.l0 N l ((i : Nat) : Int) f.1 f.2.1 f.2.2.1 f.2.2.2.1 f.2.2.2.2.1 f.2.2.2.2.2.1 f.2.2.2.2.2.2.1 m q) P := by
  refine EvP.step (fun N => impl_Frame_named.l0.eq N _ _ _ _ _ _ _ _ _ _ _) (EvP.pos (by omega) (EvP.chk2 (by omega) (by omega) ?_))
  rw [Int.toNat_natCast, show IntKind.i64.wrap ((i : Int) + 1) = ((i + 1 : Nat) : Int) by rw [i64w (by omega) (by omega)]; omega]
  generalize l.getD i 0 = x at h k
  refine EvP.to (a := (((), (!(numB m x i), ())), (f, ((m, (q, ())), ())))) ?_ ?_
  · refine EvP.to (isVarint_i x) (EvP.nite (fun h1 => EvP.some ?_) (fun h1 => EvP.ite (fun h2 => EvP.some ?_) (fun h2 => EvP.some ?_)))
    · simp [numB, h1]
    · simp [numB, h1, h2]
    · simp [numB, h1, h2]
  · cases hb : numB m x i with
    | false => exact EvP.yes rfl (EvP.some (h hb))
    | true => exact EvP.no rfl (k hb)
theorem shapes_ok : EvP (fun N => impl_shapes N) (· = ((shapeT, ()), ())) := EvP.of (fun N => impl_shapes.eq N) (EvP.some rfl)
attribute [local irreducible] shapeT in
theorem named_ok {k : Int} (hk : -9223372036854775808 ≤ k ∧ k ≤ 9223372036854775807) (a b c : Int) (fin : Bool) (d : ByteArray) (r : List (Int × Int)) :
    EvP (fun N => impl_Frame_named N k a b c fin d r) (· = ((namedB k a b c fin d r, ()), (mkF k a b c fin d r, ()))) := by
  refine EvP.of (fun N => impl_Frame_named.eq N _ _ _ _ _ _ _) (EvP.to shapes_ok (EvP.chk ?_ ?_))
  · simp only [Lit.wf, Bool.and_eq_true, decide_eq_true_eq]
    exact hk
  · refine EvP.to (a := (((), ((), (!(preB k fin d r), ()))), (mkF k a b c fin d r, (((shp k).1, ((shp k).2, ())), ())))) ?_ ?_
    · have rest : hasM k shapeT = true → ¬ 200 < (d.size : Int) → ((shp k).2 || decide (d = nilS)) = true → preB k fin d r = ((!fin || decide (k = 8)) && (decide (¬ 0 < (r.length : Int)) || decide (k = 2))) := by
        intro e1 e2 e3
        simp only [preB, e1, e3, decide_eq_true e2, Bool.true_and]
      refine EvP.sel (fun e1 => EvP.some ?_) (fun e1 => EvP.ite (fun e2 => EvP.some ?_) (fun e2 => EvP.sel (fun e3 => EvP.nite (fun e4 => EvP.some ?_) (fun e4 => ?_)) (fun e3 => ?_)))
      · have e1' : hasM k shapeT = false := by simpa using e1
        simp only [preB, e1', Bool.false_and]
        rfl
      · simp only [preB, decide_eq_false (show ¬¬ 200 < (d.size : Int) from not_not_intro e2), Bool.false_and, Bool.and_false]
        rfl
      · have e3' : (shp k).2 = false := by simpa using e3
        simp only [preB, e3', decide_eq_false e4, Bool.or_false, Bool.false_and, Bool.and_false]
        rfl
      · have e1' : hasM k shapeT = true := by simpa using e1
        rw [rest e1' e2 (by rw [decide_eq_true e4]; simp)]
        refine EvP.sel (fun f1 => EvP.nite (fun f2 => EvP.some ?_) (fun f2 => EvP.ite (fun f3 => EvP.some ?_) (fun f3 => EvP.some ?_))) (fun f1 => EvP.ite (fun f3 => EvP.some ?_) (fun f3 => EvP.some ?_))
        · subst f1; rw [decide_eq_false f2]; rfl
        · subst f1; rw [decide_eq_true f2, decide_eq_false (not_not_intro f3)]; simp [mkF]
        · subst f1; rw [decide_eq_true f2, decide_eq_true f3]; rfl
        · subst f1; rw [decide_eq_false (not_not_intro f3)]; simp [mkF]
        · subst f1; rw [decide_eq_true f3]; rfl
      · have e1' : hasM k shapeT = true := by simpa using e1
        have e3' : (shp k).2 = true := by simpa using e3
        rw [rest e1' e2 (by rw [e3']; rfl)]
        refine EvP.sel (fun f1 => EvP.nite (fun f2 => EvP.some ?_) (fun f2 => EvP.ite (fun f3 => EvP.some ?_) (fun f3 => EvP.some ?_))) (fun f1 => EvP.ite (fun f3 => EvP.some ?_) (fun f3 => EvP.some ?_))
        · subst f1; rw [decide_eq_false f2]; rfl
        · subst f1; rw [decide_eq_true f2, decide_eq_false (not_not_intro f3)]; simp [mkF]
        · subst f1; rw [decide_eq_true f2, decide_eq_true f3]; rfl
        · subst f1; rw [decide_eq_false (not_not_intro f3)]; simp [mkF]
        · subst f1; rw [decide_eq_true f3]; rfl
    · unfold namedB
      cases hp : preB k fin d r with
      | false => exact EvP.yes rfl (EvP.some rfl)
      | true =>
        refine EvP.no rfl ?_
        refine EvP.to (a := if (numB (shp k).1 a 0 && (numB (shp k).1 b 1 && numB (shp k).1 c 2)) = true then .inr ((), (mkF k a b c fin d r, (((shp k).1, ((shp k).2, ())), ()))) else .inl ((false, ()), (mkF k a b c fin d r, (((shp k).1, ((shp k).2, ())), ())))) ?_ ?_
        · refine named_l0 (l := [a, b, c]) rfl (mkF k a b c fin d r) _ _ 0 (by omega) (fun h => ?_) (fun h => named_l0 (l := [a, b, c]) rfl (mkF k a b c fin d r) _ _ 1 (by omega) (fun h2 => ?_) (fun h2 => named_l0 (l := [a, b, c]) rfl (mkF k a b c fin d r) _ _ 2 (by omega) (fun h3 => ?_) (fun h3 => ?_)))
          · have h : numB (shp k).1 a 0 = false := h
            rw [h]; rfl
          · have h : numB (shp k).1 a 0 = true := h
            have h2 : numB (shp k).1 b 1 = false := h2
            rw [h, h2]; rfl
          · have h : numB (shp k).1 a 0 = true := h
            have h2 : numB (shp k).1 b 1 = true := h2
            have h3 : numB (shp k).1 c 2 = false := h3
            rw [h, h2, h3]; rfl
          · have h : numB (shp k).1 a 0 = true := h
            have h2 : numB (shp k).1 b 1 = true := h2
            have h3 : numB (shp k).1 c 2 = true := h3
            rw [h, h2, h3]
            exact EvP.step (fun N => impl_Frame_named.l0.eq N _ _ _ _ _ _ _ _ _ _ _) (EvP.neg (by omega) (EvP.some rfl))
        · cases hn : (numB (shp k).1 a 0 && (numB (shp k).1 b 1 && numB (shp k).1 c 2)) with
          | true => exact EvP.some rfl
          | false => exact EvP.some rfl
end Go.Proofs.Ytbfkfhadcmpndaa.CFnFrames
