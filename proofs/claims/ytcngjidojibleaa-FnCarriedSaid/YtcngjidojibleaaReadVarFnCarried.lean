/- The program's cursor over a text: a number and what is left. -/
import Derived.Test.YtcngjidojibleaaVarImplFnCarried
set_option linter.unusedVariables false
set_option linter.unusedSimpArgs false
namespace Go.Proofs.Ytcngjidojibleaa.CFnCarried
open Go.RowKit Go.Proofs.Ytcngjidojibleaa.B Go.Proofs.Ytcngjidojibleaa.PFnCarried Go.Proofs.YtcngjidojibleaaW.PrintWords Go.Proofs.YtcngjidojibleaaW.PrintLast Go.Proofs.YtcngjidojibleaaW.PrintMore

/-- What is left behind the number. -/
def leftV (s : ByteArray) : ByteArray := s.extract (TakeV s).2.toNat s.size
theorem B_leftV (s : ByteArray) : B (leftV s) = (B s).drop (TakeV s).2.toNat := by
  unfold leftV
  rw [B_extract, List.take_of_length_le (by rw [B_length]; exact Nat.le_refl _)]
theorem curNumber_ok (s : ByteArray) (sh : Bool) : EvP (fun k => impl_cursor_number.f k s sh) (· = ((TakeV s).1, leftV s, if (TakeV s).2 = 0 then true else sh)) := by
  simp only [impl_cursor_number.f]
  refine EvP.bind (Take_impl s) ?_
  rintro t rfl
  obtain ⟨h1, h2, h3, h4, h5⟩ := TakeV_range s
  refine EvP.ite (fun h => ?_) (fun h => ?_)
  · exact EvP.pos h3 (EvP.pos h5 (EvP.some (by rw [if_pos h]; rfl)))
  · exact EvP.pos h3 (EvP.pos h5 (EvP.some (by rw [if_neg h]; rfl)))
theorem extract_all (s : ByteArray) : s.extract 0 s.size = s := by
  apply B_inj
  rw [B_extract, List.drop_zero, List.take_of_length_le (by rw [B_length]; exact Nat.le_refl _)]
end Go.Proofs.Ytcngjidojibleaa.CFnCarried
