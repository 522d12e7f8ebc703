/- The drawing cursor: a block. -/
import Derived.Test.YtcngjidojibleaaCurAmongFnGhash
import Derived.Test.YtcngjidojibleaaCurSizedFnGhash
set_option linter.unusedVariables false
set_option linter.unusedSimpArgs false
namespace Go.Proofs.Ytcngjidojibleaa.CFnGhash
open Go.RowKit Go.Proofs.Ytcngjidojibleaa.B Go.Proofs.Ytcngjidojibleaa.PFnGhash Go.Proofs.YtcngjidojibleaaW.PrintWords Go.Proofs.YtcngjidojibleaaW.PrintLast Go.Proofs.YtcngjidojibleaaW.PrintMore

theorem block_ok {l : List Int} (hl : Bytes l) (a s : Int) (h0 : 0 ≤ a) (h1 : a ≤ 4611686018410000000) :
    EvP (fun k => spec_l1Cur_block.f k l a s) (fun r => r.1.size ≤ 17 ∧ a ≤ r.2.1 ∧ r.2.1 ≤ a + 100) := by
  simp only [spec_l1Cur_block.f]
  refine EvP.bind0 (one_ok hl a s 30 h0 (by omega)) ?_
  intro p hp
  refine EvP.ite (fun _ => ?_) (fun _ => ?_)
  · refine EvP.bind0 (among_ok hl _ _ (by omega) (by omega) _ (by simp)) ?_
    intro z hz
    have hz1 : 0 ≤ z.1 ∧ z.1 ≤ 17 := by
      have := hz.1
      simp only [List.mem_cons, List.not_mem_nil, or_false] at this
      omega
    refine EvP.bind (sizedBytes_ok hl _ _ _ ⟨by omega, by omega⟩ (by omega) (by omega)) ?_
    intro r hr
    refine EvP.some ⟨?_, by dsimp only; omega, by dsimp only; omega⟩
    rw [strOfNums_size, hr.1]; omega
  · refine EvP.bind0 (one_ok hl _ _ 8 (by omega) (by omega)) ?_
    intro q hq
    refine EvP.ite (fun _ => ?_) (fun _ => ?_)
    · refine EvP.pos (by decide) (EvP.some ⟨?_, by dsimp only; omega, by dsimp only; omega⟩)
      rw [strOfNums_size, List.length_replicate]; omega
    · refine EvP.bind (sizedBytes_ok hl _ _ _ ⟨by omega, by omega⟩ (by omega) (by omega)) ?_
      intro r hr
      refine EvP.some ⟨?_, by dsimp only; omega, by dsimp only; omega⟩
      rw [strOfNums_size, hr.1]; omega
end Go.Proofs.Ytcngjidojibleaa.CFnGhash
