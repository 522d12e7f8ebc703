/- FnCut: both packages cut a datagram into the same packets, which put together are the datagram and read whole one by one; both answer a header of an unknown version alike, and the answer is good. -/
import Derived.Test.YteichkkbhpdjcaaQPiecesFnCut
import Derived.Test.YteichkkbhpdjcaaQVerAnsFnCut
import Derived.Test.YteichkkbhpdjcaaSFnCut
set_option linter.unusedVariables false
set_option linter.unusedSimpArgs false
namespace Go.Proofs.Yteichkkbhpdjcaa.Pure
open Go Go.Proofs Go.Proofs.YteichkkbhpdjcaaPM Go.Proofs.Yteichkkbhpdjcaa.Q Go.Proofs.Yteichkkbhpdjcaa.CFnCut Go.Proofs.Yteichkkbhpdjcaa.GFnCut

theorem FnCut (a0 : List Int) (h0 : ∀ y ∈ a0, 0 ≤ y ∧ y ≤ 255) (s0 : a0.length ≤ 140737488351232) (a1 : List Int) (h1 : ∀ y ∈ a1, 0 ≤ y ∧ y ≤ 255) (s1 : a1.length ≤ 140737488351232) : ∃ N, laws_FnCut N a0 a1 = some ((true, ()), ()) := by
  refine EvP.fin (EvP.of (fun k => laws_FnCut.eq k _ _) ?_)
  refine EvP.ite (fun _ => EvP.some rfl) (fun _ => ?_)
  refine EvP.andK (spec_DrawCutDatagram_s h0) ?_
  intro u1 q1
  refine EvP.to (Cut_impl u1.1.1 u1.1.2.1) (EvP.to (Cut_spec u1.1.1 u1.1.2.1) ?_)
  have hl := cutOf_len u1.1.1 u1.1.2.1
  obtain ⟨e1, e2, e3, e4⟩ := cutOf_pieces u1.1.1 u1.1.2.1
  generalize cutOf u1.1.1 u1.1.2.1 = c at hl e1 e2 e3 e4
  obtain ⟨⟨⟨⟩, b, ⟨⟩⟩, m, ⟨⟩⟩ := c
  dsimp only at hl e1 e2 e3 e4
  refine EvP.to (a := (((), (false, ())), (m, (m, ())))) (EvP.no (by simp) (EvP.to (sameTexts_ok m (by omega)) (EvP.some rfl))) (EvP.no rfl ?_)
  refine EvP.to (pieces_l m m (by omega) m 0 nilS rfl (by omega) (by rw [size_nil]; omega) e3 e4) (EvP.inr ?_)
  rw [nil_app]
  refine EvP.to (a := ((false, ()), (m, (m, ())))) (EvP.sel (fun hb => EvP.some ?_) (fun hb => EvP.some rfl)) (EvP.no rfl ?_)
  · dsimp only at hb ⊢
    rw [e1 hb]
    simp
  refine EvP.andK (spec_DrawVersionAnswer_s h1) ?_
  intro u2 q2
  obtain ⟨_, _, _, _, _, _, _, _, _, _, hv, _, ho, _⟩ := q2
  obtain ⟨⟨⟨f, bi, v, d, cc, t, p, l, ⟨⟩⟩, ⟨⟩, ⟨⟩⟩, o, ⟨⟩⟩ := u2
  dsimp only at hv ho
  refine EvP.to (va_impl f bi v d cc t p l o (by omega) (by omega)) ?_
  by_cases hk : vaOk f bi v d cc t p l o
  · have e := vaOf_yes hk
    rw [e]
    refine EvP.to (va_spec f bi v d cc t p l o (by omega) (by omega)) ?_
    rw [e]
    refine EvP.to (a := (((), ((), (false, ()))), (m, (m, (o, (mkH f bi v d cc t p l, (mkH 4 0 0 cc d nilS nilS o, (mkH 4 0 0 cc d nilS nilS o, ())))))))) (EvP.no rfl (EvP.to (sameHeaders_ok _ _ _ _ _ _ _ _ (by dsimp only [mkH]; omega)) (EvP.some rfl))) (EvP.no rfl (EvP.no rfl (EvP.pos rfl (EvP.pos rfl ?_))))
    refine EvP.to (good_impl _ _ _ _ _ _ _ _ (by dsimp only [mkH]; omega)) (EvP.some ?_)
    exact congrArg (fun b : Bool => ((b, ()), ())) (decide_eq_true (va_good hk))
  · have e := vaOf_no hk
    rw [e]
    refine EvP.to (va_spec f bi v d cc t p l o (by omega) (by omega)) ?_
    rw [e]
    exact EvP.to (a := (((), ((), (false, ()))), (m, (m, (o, (mkH f bi v d cc t p l, (mkH 0 0 0 nilS nilS nilS nilS [], (mkH 0 0 0 nilS nilS nilS nilS [], ())))))))) (EvP.no rfl (EvP.to (sameHeaders_ok _ _ _ _ _ _ _ _ (by simp [mkH])) (EvP.some rfl))) (EvP.no rfl (EvP.yes rfl (EvP.some rfl)))
end Go.Proofs.Yteichkkbhpdjcaa.Pure
