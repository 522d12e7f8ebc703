/- FnHeaders: both packages write a header alike, what was written is read as it was, and where it goes is told by its beginning. -/
import Derived.Test.YtcngjidojibleabQDestFnHeaders
import Derived.Test.YtcngjidojibleabQReadHImplFnHeaders
import Derived.Test.YtcngjidojibleabQSameHFnHeaders
import Derived.Test.YtcngjidojibleabSFnHeaders
set_option linter.unusedVariables false
set_option linter.unusedSimpArgs false
namespace Go.Proofs.Ytcngjidojibleab.Pure
open Go Go.Proofs Go.Proofs.YtcngjidojibleabPM Go.Proofs.Ytcngjidojibleab.Q Go.Proofs.Ytcngjidojibleab.CFnHeaders Go.Proofs.Ytcngjidojibleab.GFnHeaders

theorem FnHeaders (a0 : List Int) (h0 : ∀ y ∈ a0, 0 ≤ y ∧ y ≤ 255) (s0 : a0.length ≤ 140737488351232) : ∃ N, laws_FnHeaders N a0 = some ((true, ()), ()) := by
  refine EvP.fin (EvP.of (fun k => laws_FnHeaders.eq k _) ?_)
  refine EvP.ite (fun _ => EvP.some rfl) (fun _ => ?_)
  refine EvP.andK (spec_DrawHeaderBytes_s h0) ?_
  intro u q
  obtain ⟨_, _, _, _, _, _, _, _, _, _, hv, _⟩ := q
  obtain ⟨⟨⟨f, b, v, d, c, t, p, ⟨⟩, ⟨⟩⟩, ⟨⟩⟩, l, ⟨⟩⟩ := u
  dsimp only at hv
  refine EvP.to (HeaderBytes_impl f b v d c t p l (by omega)) (EvP.to (HeaderBytes_spec f b v d c t p l (by omega)) ?_)
  refine EvP.to (a := (((), (false, ())), (l, ((f, (b, (v, (d, (c, (t, (p, ((), ())))))))), ())))) (EvP.no (by simp) (EvP.some (by simp))) (EvP.no rfl ?_)
  unfold hwOf
  by_cases g : GoodH f b v d c t p l
  · rw [if_pos g]
    have hs := hb_size g
    obtain ⟨g1, g2, ⟨g3, g3'⟩, g4, g5⟩ := g.1
    refine EvP.no rfl (EvP.andK (ReadHeader_impl (hbOf f b v d c t p l) (by omega) (d.size : Int) (by omega) (by omega)) ?_)
    intro r hr
    rw [readH_hb g] at hr
    obtain rfl : r = _ := hr
    refine EvP.to (DestOf_impl g) (EvP.pos rfl (EvP.pos rfl (EvP.to (sameHeaders_ok f b v d c t p l (by omega)) (EvP.yes rfl (EvP.yes rfl (EvP.pos rfl (EvP.some ?_)))))))
    simp
  · rw [if_neg g]
    exact EvP.yes rfl (EvP.some rfl)
end Go.Proofs.Ytcngjidojibleab.Pure
