/- The next piece of a text that flows out: both packages' answers. -/
import Derived.Test.YtbfkfhadcmpndaaQFrameGFnPieces
set_option linter.unusedVariables false
set_option linter.unusedSimpArgs false
namespace Go.Proofs.Ytbfkfhadcmpndaa.CFnPieces
open Go Go.Proofs Go.Proofs.YtbfkfhadcmpndaaPM Go.Proofs.Ytbfkfhadcmpndaa.Q Go.Proofs.Ytbfkfhadcmpndaa.GFnPieces

theorem in_s (n lo hi : Int) : EvP (fun N => spec_l1In N n lo hi) (· = ((decide (lo ≤ n ∧ n ≤ hi), ()), ())) := by
  refine EvP.of (fun N => spec_l1In.eq N _ _ _) (EvP.ite (fun h => EvP.some ?_) (fun h => EvP.some ?_))
  · rw [dec_eq (q := lo ≤ n ∧ n ≤ hi) (fun h2 => ⟨h, h2⟩) (fun h2 => h2.2)]
  · rw [decide_eq_false (show ¬(lo ≤ n ∧ n ≤ hi) from fun h2 => h h2.1)]
theorem known_s (n : Int) : EvP (fun N => spec_l1Known N n) (· = ((decide (VarN n), ()), ())) := EvP.of (fun N => spec_l1Known.eq N _) (EvP.to (in_s _ _ _) (EvP.some rfl))
abbrev Of := Int × (Int × (ByteArray × (Bool × Unit)))
abbrev Fm8 := Int × (Int × (Int × (Int × (Bool × (ByteArray × (Unit × Unit))))))
def mkO (l s : Int) (d : ByteArray) (e : Bool) : Of := (l, (s, (d, (e, ()))))
def mk8 (k a b c : Int) (fin : Bool) (d : ByteArray) : Fm8 := (k, (a, (b, (c, (fin, (d, ((), ())))))))
def GoodO (l s : Int) (d : ByteArray) : Prop := VarN l ∧ (d.size : Int) ≤ 4000 ∧ (0 ≤ s ∧ s ≤ (d.size : Int)) ∧ s ≤ l
instance (l s : Int) (d : ByteArray) : Decidable (GoodO l s d) := by unfold GoodO; infer_instance
theorem goodO_i (l s : Int) (d : ByteArray) (e : Bool) : EvP (fun N => impl_GoodOutflow N l s d e) (· = ((decide (GoodO l s d), ()), ())) := by
  refine EvP.of (fun N => impl_GoodOutflow.eq N _ _ _ _) (EvP.to (isVarint_i l) (EvP.ite (fun a1 => EvP.ite (fun a2 => EvP.to (in_i _ _ _) (EvP.ite (fun a3 => EvP.some ?_) (fun a3 => EvP.some ?_))) (fun a2 => EvP.some ?_)) (fun a1 => EvP.some ?_)))
  · rw [dec_eq (q := GoodO l s d) (fun h => ⟨a1, a2, a3, h⟩) (fun h => h.2.2.2)]
  · rw [decide_eq_false (fun h : GoodO l s d => a3 h.2.2.1)]
  · rw [decide_eq_false (fun h : GoodO l s d => a2 h.2.1)]
  · rw [decide_eq_false (fun h : GoodO l s d => a1 h.1)]
theorem goodO_s (l s : Int) (d : ByteArray) (e : Bool) : EvP (fun N => spec_GoodOutflow N l s d e) (· = ((decide (GoodO l s d), ()), ())) := by
  refine EvP.of (fun N => spec_GoodOutflow.eq N _ _ _ _) (EvP.to (known_s l) (EvP.ite (fun a1 => EvP.ite (fun a2 => EvP.to (in_s _ _ _) (EvP.ite (fun a3 => EvP.some ?_) (fun a3 => EvP.some ?_))) (fun a2 => EvP.some ?_)) (fun a1 => EvP.some ?_)))
  · rw [dec_eq (q := GoodO l s d) (fun h => ⟨a1, a2, a3, h⟩) (fun h => h.2.2.2)]
  · rw [decide_eq_false (fun h : GoodO l s d => a3 h.2.2.1)]
  · rw [decide_eq_false (fun h : GoodO l s d => a2 h.2.1)]
  · rw [decide_eq_false (fun h : GoodO l s d => a1 h.1)]
/-- Where the next piece ends. -/
def pieceE (l s : Int) (d : ByteArray) (m : Int) : Int := s + min (min m (l - s)) ((d.size : Int) - s)
def pieceF (l s : Int) (d : ByteArray) (e : Bool) (m : Int) : Bool := e && decide (pieceE l s d m = (d.size : Int))
def MayP (l s : Int) (d : ByteArray) (m : Int) : Prop := GoodO l s d ∧ (1 ≤ m ∧ m ≤ 200)
instance (l s : Int) (d : ByteArray) (m : Int) : Decidable (MayP l s d m) := by unfold MayP; infer_instance
def pieceFm (l s : Int) (d : ByteArray) (e : Bool) (m : Int) : Fm8 := mk8 8 0 s 0 (pieceF l s d e m) (d.extract s.toNat (pieceE l s d m).toNat)
def pieceB (l s : Int) (d : ByteArray) (e : Bool) (m : Int) : Bool := decide (MayP l s d m) && (!decide (pieceE l s d m = s) || pieceF l s d e m)
abbrev NextT := (Of × (Fm8 × (Bool × Unit))) × Unit
def nextR (l s : Int) (d : ByteArray) (e : Bool) (m : Int) : NextT :=
  if pieceB l s d e m = true then ((mkO l (pieceE l s d m) d e, (pieceFm l s d e m, (true, ()))), ()) else ((mkO 0 0 nilS false, (mk8 0 0 0 0 false nilS, (false, ()))), ())
theorem mm_min (a b : Int) : mmI false a b = min a b := by unfold mmI; dsimp only; split <;> omega
theorem pieceE_ok {l s m : Int} {d : ByteArray} (h : MayP l s d m) : s ≤ pieceE l s d m ∧ pieceE l s d m ≤ (d.size : Int) ∧ pieceE l s d m ≤ l ∧ pieceE l s d m ≤ s + 200 := by
  obtain ⟨⟨⟨_, _⟩, _, _, _⟩, _⟩ := h
  unfold pieceE
  omega
theorem nextR_no {l s m : Int} {d : ByteArray} {e : Bool} (h : ¬MayP l s d m) : nextR l s d e m = ((mkO 0 0 nilS false, (mk8 0 0 0 0 false nilS, (false, ()))), ()) := by
  unfold nextR pieceB
  rw [decide_eq_false h, Bool.false_and]
  rfl
theorem nextR_yes {l s m : Int} {d : ByteArray} {e : Bool} (h : MayP l s d m) : nextR l s d e m = if (!decide (pieceE l s d m = s) || pieceF l s d e m) = true then ((mkO l (pieceE l s d m) d e, (pieceFm l s d e m, (true, ()))), ()) else ((mkO 0 0 nilS false, (mk8 0 0 0 0 false nilS, (false, ()))), ()) := by
  unfold nextR pieceB
  rw [decide_eq_true h, Bool.true_and]
theorem Next_impl (l s : Int) (d : ByteArray) (e : Bool) (m : Int) : EvP (fun N => impl_NextPiece N l s d e m) (· = nextR l s d e m) := by
  refine EvP.of (fun N => impl_NextPiece.eq N _ _ _ _ _) ?_
  refine EvP.to (a := (((), ((), ((), (!(decide (MayP l s d m)), ())))), (mkO l s d e, (mkO 0 0 nilS false, (mk8 0 0 0 0 false nilS, ()))))) ?_ ?_
  · refine EvP.to (goodO_i l s d e) (EvP.nite (fun h1 => EvP.some ?_) (fun h1 => EvP.to (in_i _ _ _) (EvP.some ?_)))
    · rw [decide_eq_false (fun h : MayP l s d m => h1 h.1)]; rfl
    · rw [dec_eq (q := MayP l s d m) (fun h => ⟨h1, h⟩) (fun h => h.2)]; rfl
  refine EvP.nite (fun h => EvP.some (nextR_no h).symm) (fun h => ?_)
  obtain ⟨k1, k2, k3, k4⟩ := pieceE_ok h
  have hh := h
  obtain ⟨⟨⟨v1, v2⟩, g1, g2, g3⟩, g4⟩ := hh
  dsimp only [mkO, mk8]
  have hp : s + min (min m (l - s)) ((d.size : Int) - s) = pieceE l s d m := rfl
  have hw : IntKind.i64.wrap (s + min (min m (l - s)) ((d.size : Int) - s)) = pieceE l s d m := by rw [i64w (by omega) (by omega)]; rfl
  simp only [mm_min, i64w (n := l - s) (by omega) (by omega), i64w (n := (d.size : Int) - s) (by omega) (by omega), hw]
  refine EvP.chk3 (by omega) (by omega) (by omega) ?_
  refine EvP.to (a := (((), ((), ((), ((), ())))), (mkO l s d e, (mkO 0 0 nilS false, (mk8 0 0 0 0 false nilS, (pieceFm l s d e m, ())))))) (EvP.sel (fun he => EvP.some ?_) (fun he => EvP.some ?_)) ?_
  · subst he; rfl
  · subst he; rfl
  rw [nextR_yes h]
  have hz : (min (min m (l - s)) ((d.size : Int) - s) = 0) ↔ pieceE l s d m = s := by unfold pieceE; omega
  refine EvP.to (a := (((), ((), ((), ((), (!(!decide (pieceE l s d m = s) || pieceF l s d e m), ()))))), (mkO l s d e, (mkO 0 0 nilS false, (mk8 0 0 0 0 false nilS, (pieceFm l s d e m, ())))))) (EvP.ite (fun he => EvP.some ?_) (fun he => EvP.some ?_)) ?_
  · rw [decide_eq_true (hz.1 he)]; rfl
  · rw [decide_eq_false (fun h => he (hz.2 h))]; rfl
  cases (!decide (pieceE l s d m = s) || pieceF l s d e m) with
  | true => exact EvP.no rfl (EvP.some (by rw [if_pos rfl]; dsimp only [mkO]; rw [hw]))
  | false => exact EvP.yes rfl (EvP.some rfl)
theorem Next_spec (l s : Int) (d : ByteArray) (e : Bool) (m : Int) : EvP (fun N => spec_NextPiece N l s d e m) (· = nextR l s d e m) := by
  refine EvP.of (fun N => spec_NextPiece.eq N _ _ _ _ _) ?_
  refine EvP.to (a := (((), ((), ((), (!(decide (MayP l s d m)), ())))), (mkO l s d e, (mkO 0 0 nilS false, (mk8 0 0 0 0 false nilS, ()))))) ?_ ?_
  · refine EvP.to (goodO_s l s d e) (EvP.nite (fun h1 => EvP.some ?_) (fun h1 => EvP.to (in_s _ _ _) (EvP.some ?_)))
    · rw [decide_eq_false (fun h : MayP l s d m => h1 h.1)]; rfl
    · rw [dec_eq (q := MayP l s d m) (fun h => ⟨h1, h⟩) (fun h => h.2)]; rfl
  refine EvP.nite (fun h => EvP.some (nextR_no h).symm) (fun h => ?_)
  obtain ⟨k1, k2, k3, k4⟩ := pieceE_ok h
  have hh := h
  obtain ⟨⟨⟨v1, v2⟩, g1, g2, g3⟩, g4⟩ := hh
  dsimp only [mkO, mk8]
  simp only [i64w (n := s + m) (by omega) (by omega)]
  refine EvP.to (a := (((), ((), ((), (min (d.size : Int) (s + m), ())))), (mkO l s d e, (mkO 0 0 nilS false, (mk8 0 0 0 0 false nilS, ()))))) (EvP.ite (fun he => EvP.some ?_) (fun he => EvP.some ?_)) ?_
  · rw [Int.min_eq_left (by omega)]; rfl
  · rw [Int.min_eq_right (by omega)]; rfl
  refine EvP.to (a := (((), ((), ((), (pieceE l s d m, ())))), (mkO l s d e, (mkO 0 0 nilS false, (mk8 0 0 0 0 false nilS, ()))))) (EvP.ite (fun he => EvP.some ?_) (fun he => EvP.some ?_)) ?_
  · dsimp only [mkO] at he ⊢
    rw [show pieceE l s d m = l by unfold pieceE; omega]
  · dsimp only [mkO] at he ⊢
    rw [show pieceE l s d m = min (d.size : Int) (s + m) by unfold pieceE; omega]
  refine EvP.to (a := (((), ((), ((), ((), ())))), (mkO l s d e, (mkO 0 0 nilS false, (mk8 0 0 0 0 false nilS, (pieceFm l s d e m, ())))))) (EvP.chk3 (by dsimp only [mkO]; omega) (by dsimp only [mkO]; omega) (by dsimp only [mkO]; omega) (EvP.sel (fun he => EvP.some ?_) (fun he => EvP.some ?_))) ?_
  · have he : e = true := he
    subst he; rfl
  · have he : e = false := he
    subst he; rfl
  rw [nextR_yes h]
  have hz : (d.extract s.toNat (pieceE l s d m).toNat = nilS) ↔ pieceE l s d m = s := by
    have hs : (d.extract s.toNat (pieceE l s d m).toNat).size = (pieceE l s d m).toNat - s.toNat := extract_size (by omega)
    constructor
    · intro h
      rw [h] at hs
      have h0 : (nilS : ByteArray).size = 0 := rfl
      omega
    · intro h
      exact size_zero (by omega)
  refine EvP.to (a := (((), ((), ((), ((), (!(!decide (pieceE l s d m = s) || pieceF l s d e m), ()))))), (mkO l s d e, (mkO 0 0 nilS false, (mk8 0 0 0 0 false nilS, (pieceFm l s d e m, ())))))) (EvP.ite (fun he => EvP.some ?_) (fun he => EvP.some ?_)) ?_
  · rw [decide_eq_true (hz.1 he)]; rfl
  · rw [decide_eq_false (fun h => he (hz.2 h))]; rfl
  cases (!decide (pieceE l s d m = s) || pieceF l s d e m) with
  | true => exact EvP.no rfl (EvP.some rfl)
  | false => exact EvP.yes rfl (EvP.some rfl)
end Go.Proofs.Ytbfkfhadcmpndaa.CFnPieces
