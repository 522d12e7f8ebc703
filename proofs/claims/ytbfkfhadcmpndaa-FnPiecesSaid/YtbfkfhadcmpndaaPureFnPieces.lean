/- FnPieces: both packages make the same next piece, and the pieces of an outflow are good frames that follow each other and hold what was asked. -/
import Derived.Test.YtbfkfhadcmpndaaQOutflowFnPieces
import Derived.Test.YtbfkfhadcmpndaaSFnPieces
set_option linter.unusedVariables false
set_option linter.unusedSimpArgs false
namespace Go.Proofs.Ytbfkfhadcmpndaa.Pure
open Go Go.Proofs Go.Proofs.YtbfkfhadcmpndaaPM Go.Proofs.Ytbfkfhadcmpndaa.Q Go.Proofs.Ytbfkfhadcmpndaa.CFnPieces Go.Proofs.Ytbfkfhadcmpndaa.GFnPieces

theorem goodf8 {b : Int} {fin : Bool} {d : ByteArray} (h1 : VarN b) (h2 : (d.size : Int) ≤ 200) (h3 : VarN (b + (d.size : Int))) : EvP (fun N => impl_GoodFrame N 8 0 b 0 fin d []) (· = ((true, ()), ())) := by
  have hn : namedB 8 0 b 0 fin d [] = true := by
    have q1 : VarN 0 := by unfold VarN; omega
    unfold namedB preB numB
    rw [show hasM 8 shapeT = true from rfl, show shp 8 = (2, true) from rfl]
    rw [decide_eq_true h1, decide_eq_true q1, decide_eq_true (show ¬ 200 < (d.size : Int) by omega)]
    simp
  obtain ⟨v1, v2⟩ := h3
  refine EvP.of (fun N => impl_GoodFrame.eq N _ _ _ _ _ _ _) (EvP.to (named_ok (by omega) _ _ _ _ _ _) ?_)
  rw [hn]
  refine EvP.no rfl (EvP.neg (by dsimp only [mkF]; omega) (EvP.neg (by dsimp only [mkF]; omega) (EvP.neg (by dsimp only [mkF]; omega) (EvP.pos rfl (EvP.to (isVarint_i _) (EvP.some ?_))))))
  exact congrArg (fun b => ((b, ()), ())) (decide_eq_true (show VarN (IntKind.i64.wrap (b + (d.size : Int))) by rw [i64w (by omega) (by omega)]; exact ⟨v1, v2⟩))
theorem sameRanges_nil : EvP (fun N => laws_sameRanges N [] []) (· = ((true, ()), ())) := by
  refine EvP.of (fun N => laws_sameRanges.eq N _ _) (EvP.nneg rfl (EvP.to (EvP.step (fun N => laws_sameRanges.l0.eq N _ _ _ _) (EvP.neg (by simp) (EvP.some rfl))) (EvP.inr (EvP.some rfl))))
theorem sameFrames_nil (k a b c : Int) (fin : Bool) (d : ByteArray) : EvP (fun N => laws_sameFrames N k a b c fin d [] k a b c fin d []) (· = ((true, ()), ())) := by
  refine EvP.of (fun N => laws_sameFrames.eq N _ _ _ _ _ _ _ _ _ _ _ _ _ _) (EvP.pos rfl (EvP.pos rfl (EvP.pos rfl (EvP.pos rfl (EvP.yes (by simp) (EvP.pos rfl (EvP.to sameRanges_nil (EvP.some rfl))))))))
theorem ext_join {d : ByteArray} {a b c : Int} (h1 : a ≤ b) (h2 : b ≤ c) : d.extract a.toNat b.toNat ++ d.extract b.toNat c.toNat = d.extract a.toNat c.toNat := by
  rw [ByteArray.extract_append_extract, Nat.min_eq_left (by omega), Nat.max_eq_right (by omega)]
abbrev LT := ((Bool × Unit) × (Of × (Of × (Fm8 × (Of × (Fm8 × Unit)))))) ⊕ ((Unit × (Int × (ByteArray × Unit))) × (Of × (Of × (Fm8 × (Of × (Fm8 × Unit))))))
def PPost (l s0 : Int) (d : ByteArray) (e : Bool) (r : LT) : Prop := ∃ (q : Int) (z : Of × (Fm8 × (Of × (Fm8 × Unit)))), r = .inr (((), (q, (d.extract s0.toNat q.toNat, ()))), (mkO l s0 d e, z)) ∧ s0 ≤ q ∧ q ≤ (d.size : Int)
theorem stop_l (l s0 m : Int) (d : ByteArray) (e : Bool) (a q : Int) (h1 : s0 ≤ q) (h2 : q ≤ (d.size : Int)) (x : Of) (f : Fm8) (y : Of) (g : Fm8) :
    EvP (fun N => laws_FnPieces.l0 N m false q (d.extract s0.toNat q.toNat) a l s0 d e x.1 x.2.1 x.2.2.1 x.2.2.2.1 f.1 f.2.1 f.2.2.1 f.2.2.2.1 f.2.2.2.2.1 f.2.2.2.2.2.1 y.1 y.2.1 y.2.2.1 y.2.2.2.1 g.1 g.2.1 g.2.2.1 g.2.2.2.1 g.2.2.2.2.1 g.2.2.2.2.2.1) (PPost l s0 d e) := by
  refine EvP.step (fun N => laws_FnPieces.l0.eq N _ _ _ _ _ _ _ _ _ _ _ _ _ _ _ _ _ _ _ _ _ _ _ _ _ _ _ _ _) ?_
  refine EvP.to (a := (((), ((), ((), (false, ())))), (mkO l s0 d e, (x, (f, (y, (g, ()))))))) (EvP.ite (fun _ => EvP.some rfl) (fun _ => EvP.some rfl)) (EvP.no rfl (EvP.some ⟨q, _, rfl, h1, h2⟩))
theorem pieces_l (l s0 m : Int) (d : ByteArray) (e : Bool) (y : Of) (g : Fm8) : ∀ (n : Nat) (a : Int), a = 100 - (n : Int) → 0 ≤ a → ∀ (p : Int), s0 ≤ p → 0 ≤ s0 → MayP l p d m → pieceB l p d e m = true →
    EvP (fun N => laws_FnPieces.l0 N m true p (d.extract s0.toNat p.toNat) a l s0 d e l (pieceE l p d m) d e 8 0 p 0 (pieceF l p d e m) (d.extract p.toNat (pieceE l p d m).toNat) y.1 y.2.1 y.2.2.1 y.2.2.2.1 g.1 g.2.1 g.2.2.1 g.2.2.2.1 g.2.2.2.2.1 g.2.2.2.2.2.1) (PPost l s0 d e) := by
  intro n
  induction n with
  | zero =>
    intro a ha h0 p hp hs hm hb
    obtain ⟨k1, k2, k3, k4⟩ := pieceE_ok hm
    refine EvP.step (fun N => laws_FnPieces.l0.eq N _ _ _ _ _ _ _ _ _ _ _ _ _ _ _ _ _ _ _ _ _ _ _ _ _ _ _ _ _) ?_
    exact EvP.to (a := (((), ((), ((), (false, ())))), (mkO l s0 d e, (mkO l (pieceE l p d m) d e, (pieceFm l p d e m, (y, (g, ()))))))) (EvP.neg (by omega) (EvP.some rfl)) (EvP.no rfl (EvP.some ⟨p, _, rfl, hp, by omega⟩))
  | succ n ih =>
    intro a ha h0 p hp hs hm hb
    obtain ⟨k1, k2, k3, k4⟩ := pieceE_ok hm
    have hh := hm
    obtain ⟨⟨⟨v1, v2⟩, g1, g2, g3⟩, g4⟩ := hh
    have hz : ((d.extract p.toNat (pieceE l p d m).toNat).size : Int) = pieceE l p d m - p := by rw [extract_size (by omega)]; omega
    refine EvP.step (fun N => laws_FnPieces.l0.eq N _ _ _ _ _ _ _ _ _ _ _ _ _ _ _ _ _ _ _ _ _ _ _ _ _ _ _ _ _) ?_
    refine EvP.to (a := (((), ((), ((), (true, ())))), (mkO l s0 d e, (mkO l (pieceE l p d m) d e, (pieceFm l p d e m, (y, (g, ()))))))) (EvP.pos (by omega) (EvP.some rfl)) (EvP.yes rfl ?_)
    have hm2 : MayP l (pieceE l p d m) d m := ⟨⟨⟨v1, v2⟩, g1, ⟨by omega, k2⟩, k3⟩, g4⟩
    refine EvP.to (a := (((), ((), ((), (false, ())))), (mkO l s0 d e, (mkO l (pieceE l p d m) d e, (pieceFm l p d e m, (y, (g, ()))))))) ?_ (EvP.no rfl ?_)
    · refine EvP.nneg rfl (EvP.to (goodf8 (b := p) (fin := pieceF l p d e m) (d := d.extract p.toNat (pieceE l p d m).toNat) ⟨by omega, by omega⟩ (by omega) ⟨by omega, by omega⟩) (EvP.no rfl (EvP.to (goodO_i l (pieceE l p d m) d e) (EvP.nneg hm2.1 ?_))))
      dsimp only [mkO, pieceFm, mk8]
      simp only [hz, i64w (n := pieceE l p d m) (by omega) (by omega), show p + (pieceE l p d m - p) = pieceE l p d m by omega]
      refine EvP.neg (by omega) (EvP.sel (fun he => EvP.some ?_) (fun he => EvP.some ?_))
      · have he : e = true := he
        subst he
        simp [pieceF, mkO, pieceFm, mk8]
      · have he : e = false := he
        subst he
        simp [pieceF, mkO, pieceFm, mk8]
    have hz2 : (d.extract s0.toNat p.toNat).size ≤ 4000 := by rw [extract_size (by omega)]; omega
    dsimp only [mkO, pieceFm, mk8]
    simp only [hz, i64w (n := pieceE l p d m) (by omega) (by omega), show p + (pieceE l p d m - p) = pieceE l p d m by omega, ext_join (d := d) hp k1, i64w (n := a + 1) (by omega) (by omega)]
    refine EvP.chk1 (by omega) (EvP.sel (fun _ => EvP.some ⟨pieceE l p d m, _, rfl, by omega, k2⟩) (fun hf => EvP.to (Next_impl l (pieceE l p d m) d e m) ?_))
    unfold nextR
    split
    · rename_i hb2
      exact ih (a + 1) (by omega) (by omega) (pieceE l p d m) (by omega) hs hm2 hb2
    · exact stop_l l s0 m d e (a + 1) (pieceE l p d m) (by omega) k2 (mkO 0 0 nilS false) (mk8 0 0 0 0 false nilS) y g
theorem FnPieces (a0 : List Int) (h0 : ∀ n ∈ a0, 0 ≤ n ∧ n ≤ 255) (s0 : a0.length ≤ 140737488351232) : ∃ N, laws_FnPieces N a0 = some ((true, ()), ()) := by
  refine EvP.fin (EvP.of (fun k => laws_FnPieces.eq k _) ?_)
  refine EvP.ite (fun _ => EvP.some rfl) (fun _ => ?_)
  refine EvP.andK (spec_DrawNextPiece_s h0) ?_
  rintro ⟨⟨⟨l, s, d, e, ⟨⟩⟩, m, ⟨⟩⟩, ⟨⟩⟩ q1
  obtain ⟨q1, q2, q3, q4, q5, q6, q7, -⟩ := q1
  dsimp only at q1 q2 q3 q4 q5 q6 q7 ⊢
  refine EvP.to (Next_impl l s d e m) (EvP.to (Next_spec l s d e m) ?_)
  unfold nextR
  split
  · rename_i hb
    have hm : MayP l s d m := by
      unfold pieceB at hb
      rw [Bool.and_eq_true] at hb
      exact of_decide_eq_true hb.1
    obtain ⟨k1, k2, k3, k4⟩ := pieceE_ok hm
    refine EvP.to (a := (((), ((), ((), (false, ())))), (mkO l s d e, (mkO l (pieceE l s d m) d e, (pieceFm l s d e m, (mkO l (pieceE l s d m) d e, (pieceFm l s d e m, ()))))))) (EvP.no rfl (EvP.to (sameFrames_nil _ _ _ _ _ _) (EvP.some rfl))) (EvP.no rfl (EvP.no rfl ?_))
    have hl := pieces_l l s m d e (mkO l (pieceE l s d m) d e) (pieceFm l s d e m) 100 0 (by omega) (by omega) s (by omega) q3 hm hb
    rw [show d.extract s.toNat s.toNat = (⟨#[]⟩ : ByteArray) from size_zero (by rw [extract_size (by have := hm.1.2.2.1; omega)]; omega)] at hl
    refine EvP.andK hl ?_
    rintro r ⟨q, z, rfl, hq1, hq2⟩
    refine EvP.inr (EvP.chk3 (by dsimp only [mkO]; omega) (by dsimp only [mkO]; omega) (by dsimp only [mkO]; omega) (EvP.some ?_))
    simp [mkO]
  · refine EvP.to (a := (((), ((), ((), (false, ())))), (mkO l s d e, (mkO 0 0 nilS false, (mk8 0 0 0 0 false nilS, (mkO 0 0 nilS false, (mk8 0 0 0 0 false nilS, ()))))))) (EvP.no rfl (EvP.to (sameFrames_nil _ _ _ _ _ _) (EvP.some rfl))) (EvP.no rfl (EvP.yes rfl (EvP.some rfl)))
end Go.Proofs.Ytbfkfhadcmpndaa.Pure
