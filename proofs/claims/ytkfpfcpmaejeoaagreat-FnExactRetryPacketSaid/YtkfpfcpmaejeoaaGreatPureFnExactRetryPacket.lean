/- FnExactRetryPacket: both packages make the same packet that asks to come again. -/
import Derived.Test.YtkfpfcpmaejeoaaGreatQRetryFnExactRetryPacket
import Derived.Test.YtkfpfcpmaejeoaaGreatQMarkHFnExactRetryPacket
set_option linter.unusedVariables false
set_option linter.unusedSimpArgs false
namespace Go.Proofs.YtkfpfcpmaejeoaaGreat.Pure
open Go Go.Proofs Go.Proofs.YtkfpfcpmaejeoaaGreatPM Go.Proofs.YtkfpfcpmaejeoaaGreat.Q Go.Proofs.YtkfpfcpmaejeoaaGreat.CFnExactRetryPacket Go.Proofs.YtkfpfcpmaejeoaaGreat.GFnExactRetryPacket

theorem szHeader_ok (f b v : Int) (d c t p : ByteArray) (l : List Int) (hd : d.size ≤ 140737488351232) (hc : c.size ≤ 140737488351232) (ht : t.size ≤ 140737488351232) (hp : p.size ≤ 140737488351232) (hl : l.length ≤ 140737488351232) :
    EvP (fun N => laws_szHeader N f b v d c t p l 1048576) (fun r => 0 ≤ r.1.1 → l.length ≤ 1048576) := by
  have no : ((-1 : Int), ()).1 < 0 := by decide
  refine EvP.of (fun N => laws_szHeader.eq N _ _ _ _ _ _ _ _ _) ?_
  rw [i64w (n := 1048576 - (d.size : Int)) (by omega) (by omega), i64w (n := 1048576 - (d.size : Int) - (c.size : Int)) (by omega) (by omega), i64w (n := 1048576 - (d.size : Int) - (c.size : Int) - (t.size : Int)) (by omega) (by omega), i64w (n := 1048576 - (d.size : Int) - (c.size : Int) - (t.size : Int) - (p.size : Int)) (by omega) (by omega)]
  refine EvP.ite (fun _ => EvP.some (fun h => absurd h (by decide))) (fun _ => EvP.ite (fun _ => EvP.some (fun h => absurd h (by decide))) (fun _ => EvP.ite (fun _ => EvP.some (fun h => absurd h (by decide))) (fun _ => EvP.ite (fun _ => EvP.some (fun h => absurd h (by decide))) (fun _ => EvP.andK (szIntS_ok l hl _ (by omega) (by omega)) fun r hr => ?_))))
  exact EvP.ite (fun _ => EvP.some (fun h => absurd h (by decide))) (fun h => EvP.some hr)
theorem toHeader_ok (f b v : Int) (d c t p : ByteArray) (l : List Int) (hl : l.length ≤ 1048576) : EvP (fun N => laws_toHeader N f b v d c t p l) (· = ((mkH7 f b v d c t p, ()), (l, ()))) :=
  EvP.of (fun N => laws_toHeader.eq N _ _ _ _ _ _ _ _) (EvP.to (toIntS_ok l (by omega)) (EvP.some rfl))
theorem eqHeader_ok (f b v : Int) (d c t p : ByteArray) (l : List Int) (hl : l.length ≤ 1048576) : EvP (fun N => laws_eqHeader N f b v d c t p l f b v d c t p l) (· = ((true, ()), ())) :=
  EvP.of (fun N => laws_eqHeader.eq N _ _ _ _ _ _ _ _ _ _ _ _ _ _ _ _) (EvP.nneg rfl (EvP.nneg rfl (EvP.nneg rfl (EvP.nneg rfl (EvP.nneg rfl (EvP.nneg rfl (EvP.nneg rfl (EvP.to (eqIntS_ok l (by omega)) (EvP.no rfl (EvP.some rfl))))))))))
theorem FnExactRetryPacket (a0_0 : Int) (a0_1 : Int) (a0_2 : Int) (a0_3 : ByteArray) (a0_4 : ByteArray) (a0_5 : ByteArray) (a0_6 : ByteArray) (a0_7 : (List Int)) (w0 : WfR (.pair (.int .i64) (.pair (.int .i64) (.pair (.int .i64) (.pair .str (.pair .str (.pair .str (.pair .str (.rows (.int .i64))))))))) (a0_0, (a0_1, (a0_2, (a0_3, (a0_4, (a0_5, (a0_6, a0_7)))))))) (a1 : ByteArray) (s1 : a1.size ≤ 140737488351232) (a2 : ByteArray) (s2 : a2.size ≤ 140737488351232) : ∃ N, laws_FnExactRetryPacket N a0_0 a0_1 a0_2 a0_3 a0_4 a0_5 a0_6 a0_7 a1 a2 = some ((true, ()), ()) := by
  obtain ⟨_, _, _, w3, w4, w5, w6, w7, _⟩ := w0
  refine EvP.fin (EvP.of (fun k => laws_FnExactRetryPacket.eq k _ _ _ _ _ _ _ _ _ _) (EvP.ite (fun _ => EvP.some rfl) (fun _ => EvP.ite (fun _ => EvP.some rfl) (fun _ => EvP.andK (szHeader_ok _ _ _ _ _ _ _ _ w3 w4 w5 w6 w7) ?_))))
  intro r hr
  refine EvP.ite (fun _ => EvP.some rfl) (fun h => ?_)
  have hl : a0_7.length ≤ 1048576 := hr (by omega)
  refine EvP.to (toHeader_ok _ _ _ _ _ _ _ _ hl) (EvP.to (Retry_spec _ _ _ _ _ _ _ _ _ _ (by dsimp only; omega)) (EvP.to (toHeader_ok _ _ _ _ _ _ _ _ hl) (EvP.to (Retry_impl _ _ _ _ _ _ _ _ _ _ (by dsimp only; omega)) ?_)))
  have hR : ∃ R, R = rpR a0_0 a0_1 a0_2 a0_3 a0_4 a0_5 a0_6 a0_7 a1 a2 := ⟨_, rfl⟩
  obtain ⟨⟨⟨⟨g0, g1, g2, g3, g4, g5, g6, ⟨⟩, ⟨⟩⟩, ok, ⟨⟩⟩, ⟨⟩⟩, hR⟩ := hR
  dsimp only [mkH7]
  rw [← hR]
  refine EvP.to (EvP.to (eqHeader_ok _ _ _ _ _ _ _ [] (by decide)) (EvP.no rfl (EvP.some rfl))) (EvP.no (by simp) (EvP.to (toHeader_ok _ _ _ _ _ _ _ _ hl) (EvP.to (eqHeader_ok _ _ _ _ _ _ _ _ hl) (EvP.no rfl ?_))))
  refine EvP.andK (Q := fun r => r.1.1 = 1 + (a0_7.length : Int)) (EvP.of (fun N => laws_markHeader.eq N _ _ _ _ _ _ _ _ _) (EvP.andK (markIntS_ok a0_7 (by omega)) fun r hr => EvP.some hr)) ?_
  intro q hq
  refine EvP.to (EvP.neg (by omega) (EvP.to (eqHeader_ok _ _ _ _ _ _ _ [] (by decide)) (EvP.no rfl (EvP.some rfl)))) (EvP.no (by simp) ?_)
  refine EvP.to (a := ((1, ()), ())) (EvP.of (fun N => laws_markHeader_2.eq N _ _ _ _ _ _ _ _) (EvP.to (a := ((1, ()), ())) (EvP.of (fun N => laws_markIntS_2.eq N _) (EvP.to (EvP.step (fun N => laws_markIntS_2.l0.eq N _ _) (EvP.neg (by decide) (EvP.some rfl))) (EvP.some rfl))) (EvP.some rfl))) ?_
  have held : ∀ (f b v : Int) (d c t p : ByteArray), EvP (fun N => laws_heldHeader N f b v d c t p [] 1) (· = ((1, ()), ())) := fun f b v d c t p =>
    EvP.of (fun N => laws_heldHeader.eq N _ _ _ _ _ _ _ _ _) (EvP.to (a := ((1, ()), ())) (EvP.of (fun N => laws_heldIntS.eq N _ _) (EvP.to (EvP.step (fun N => laws_heldIntS.l0.eq N _ _ _) (EvP.neg (by decide) (EvP.some rfl))) (EvP.some rfl))) (EvP.neg (by decide) (EvP.some rfl)))
  refine EvP.to (held _ _ _ _ _ _ _) (EvP.neg (by decide) (EvP.nneg rfl (EvP.to (toHeader_ok _ _ _ _ _ _ _ _ hl) (EvP.to (Retry_impl _ _ _ _ _ _ _ _ _ _ (by dsimp only; omega)) ?_))))
  dsimp only [mkH7]
  rw [← hR]
  refine EvP.to (EvP.to (eqHeader_ok _ _ _ _ _ _ _ [] (by decide)) (EvP.no rfl (EvP.some rfl))) (EvP.no (by simp) ?_)
  exact EvP.to (held _ _ _ _ _ _ _) (EvP.neg (by decide) (EvP.nneg rfl (EvP.some rfl)))
end Go.Proofs.YtkfpfcpmaejeoaaGreat.Pure
