/- FnVarints: whatever is drawn, a number comes back from its bytes, these are as few as can be, and a greater number has no fewer. -/
import Derived.Test.YtcggngmcaicdpabVarPutFnVarints
import Derived.Test.YtcggngmcaicdpabVarImplFnVarints
import Derived.Test.YtcggngmcaicdpabCurWideFnVarints
set_option linter.unusedVariables false
set_option linter.unusedSimpArgs false
namespace Go.Proofs.Ytcggngmcaicdpab.Pure
open Go.RowKit Go.Proofs.Ytcggngmcaicdpab.B Go.Proofs.Ytcggngmcaicdpab.CFnVarints Go.Proofs.Ytcggngmcaicdpab.PFnVarints Go.Proofs.YtcggngmcaicdpabW.PrintWords Go.Proofs.YtcggngmcaicdpabW.PrintLast Go.Proofs.YtcggngmcaicdpabW.PrintMore

theorem draw_ok {l : List Int} (hl : Bytes l) : EvP (fun k => spec_DrawVarintBytes.f k l) (fun _ => True) := by
  simp only [spec_DrawVarintBytes.f]
  refine EvP.bind0 (one_ok hl 0 0 12 (by omega) (by omega)) ?_
  intro p hp
  refine EvP.ite (fun _ => ?_) (fun _ => ?_)
  · refine EvP.bind0 (among_ok hl _ _ (by omega) (by omega) _ (by simp)) ?_
    intro q hq
    exact EvP.some trivial
  · refine EvP.bind (num_ok hl _ _ (by omega) (by omega)) ?_
    intro q hq
    exact EvP.some trivial
/-- The numbers that are known. -/
def Known (n : Int) : Prop := 0 ≤ n ∧ n ≤ 4611686018427387903
instance (n : Int) : Decidable (Known n) := by unfold Known; infer_instance
theorem isVarint_eq (n : Int) : impl_isVarint.f n = some (decide (Known n)) := by simp only [impl_isVarint.f, in_impl, Option.bind_some, Known]
theorem known_eq (n : Int) : spec_l1Known.f n = some (decide (Known n)) := by simp only [spec_l1Known.f, in_spec, Option.bind_some, Known]
theorem VarintSize_eq (n : Int) : impl_VarintSize.f n = some (if Known n then ((vsz n : Int), true) else (0, false)) := by
  simp only [impl_VarintSize.f, isVarint_eq, Option.bind_some, size_impl]
  by_cases h : Known n
  · rw [if_pos (decide_eq_true h), if_pos h]
  · rw [if_neg (by simpa using h), if_neg h]
/-- What both packages make of a number. -/
def VB (n : Int) : ByteArray × Bool := if Known n then (vbs n, true) else (⟨#[]⟩, false)
theorem VarintBytes_impl (n : Int) : EvP (fun k => impl_VarintBytes.f k n) (· = VB n) := by
  simp only [impl_VarintBytes.f, isVarint_eq, Option.bind_some]
  unfold VB
  by_cases h : Known n
  · rw [if_pos h]
    refine EvP.pos (decide_eq_true h) ?_
    refine EvP.bind (varint_impl h.1 (by have := h.2; omega)) ?_
    rintro r rfl
    exact EvP.some rfl
  · rw [if_neg h]
    exact EvP.neg (by simpa using h) (EvP.some rfl)
theorem VarintBytes_spec (n : Int) : EvP (fun k => spec_VarintBytes.f k n) (· = VB n) := by
  simp only [spec_VarintBytes.f, known_eq, Option.bind_some]
  unfold VB
  by_cases h : Known n
  · rw [if_pos h]
    refine EvP.pos (decide_eq_true h) ?_
    refine EvP.bind (var_spec h.1 (by have := h.2; omega)) ?_
    rintro r rfl
    exact EvP.some rfl
  · rw [if_neg h]
    exact EvP.neg (by simpa using h) (EvP.some rfl)
theorem FnVarints : laws_FnVarints.Pure := by
  intro l0 l1 _ _ hw0 _ _ hw1
  have hl0 := bytes_of_wf hw0
  have hl1 := bytes_of_wf hw1
  refine EvP.rounds ?_
  simp only [laws_FnVarints.f]
  refine EvP.ite (fun _ => EvP.some rfl) (fun _ => ?_)
  refine EvP.bind (draw_ok hl0) ?_
  intro n _
  refine EvP.bind (VarintBytes_impl n) ?_
  rintro p rfl
  refine EvP.bind (VarintBytes_spec n) ?_
  rintro p rfl
  refine EvP.neg (by simp) ?_
  rw [show ((VB n).1.toList != (VB n).1.toList) = false by simp]
  refine EvP.step (fun k => by rw [laws_FnVarints.j0]) ?_
  refine EvP.neg (by simp) ?_
  by_cases h : Known n
  · have hn : n < 4611686018427387904 := by have := h.2; omega
    have e : VB n = (vbs n, true) := by unfold VB; rw [if_pos h]
    rw [e]
    have hs := vbs_size n
    have hv := vsz_pos n
    refine EvP.pos rfl (EvP.pos (by simp only [hs]; omega) ?_)
    refine EvP.bind (Take_impl _) ?_
    rintro t rfl
    rw [TakeV_vbs h.1 hn, VarintSize_eq, if_pos h]
    simp only [Option.bind_some, hs]
    refine EvP.pos trivial (EvP.pos trivial (EvP.pos (by simp) ?_))
    rw [show ((vsz n : Int) != (vsz n : Int)) = false by simp]
    refine EvP.step (fun k => by rw [laws_FnVarints.j1]) ?_
    refine EvP.neg (by simp) ?_
    refine EvP.bind (draw_ok hl1) ?_
    intro m _
    rw [VarintSize_eq]
    simp only [Option.bind_some]
    by_cases hm : Known m
    · rw [if_pos hm]
      refine EvP.pos rfl (EvP.ite (fun _ => EvP.some rfl) (fun h3 => EvP.some ?_))
      have := vsz_mono (n := n) (k := m) (by omega)
      simp only [decide_eq_true_eq]
      omega
    · rw [if_neg hm]
      exact EvP.neg (by simp) (EvP.some rfl)
  · have e : VB n = (⟨#[]⟩, false) := by unfold VB; rw [if_neg h]
    rw [e]
    exact EvP.neg (by simp) (EvP.some (by rw [toList_nil]; rfl))
end Go.Proofs.Ytcggngmcaicdpab.Pure
