/- The drawing cursor: one of some numbers. -/
import Derived.Test.YtcngjidojibleaaCurFnWindow
set_option linter.unusedVariables false
set_option linter.unusedSimpArgs false
namespace Go.Proofs.Ytcngjidojibleaa.CFnWindow
open Go.RowKit Go.Proofs.Ytcngjidojibleaa.B Go.Proofs.Ytcngjidojibleaa.PFnWindow Go.Proofs.YtcngjidojibleaaW.PrintWords Go.Proofs.YtcngjidojibleaaW.PrintLast Go.Proofs.YtcngjidojibleaaW.PrintMore

theorem among_ok {l : List Int} (hl : Bytes l) (a s : Int) (h0 : 0 ≤ a) (h1 : a ≤ 4611686018427387000) (l1 : List Int) (hn : 0 < l1.length) :
    Post (spec_l1Cur_among.f l a s l1) (fun r => r.1 ∈ l1 ∧ a ≤ r.2.1 ∧ r.2.1 ≤ a + 2) := by
  unfold spec_l1Cur_among.f
  refine Post.bind (pick_ok hl a s _ h0 h1) ?_
  intro b hb
  have hlt : b.1 < (l1.length : Int) := hb.2.2.1 (by omega)
  refine Post.pos hb.1 (Post.pos hlt (Post.some ?_))
  exact ⟨rd_mem hb.1 hlt, hb.2.2.2.2.1, hb.2.2.2.2.2⟩
end Go.Proofs.Ytcngjidojibleaa.CFnWindow
