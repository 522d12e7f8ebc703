/- A header is the same as itself. -/
import Derived.Test.YtkfpfcpmaejeoaaGreatQHead
import Derived.Test.YtkfpfcpmaejeoaaGreatGFnRetriedx0
import Derived.Test.YtkfpfcpmaejeoaaGreatGFnRetriedx1
set_option linter.unusedVariables false
set_option linter.unusedSimpArgs false
namespace Go.Proofs.YtkfpfcpmaejeoaaGreat.CFnRetried
open Go Go.Proofs Go.Proofs.YtkfpfcpmaejeoaaGreatPM Go.Proofs.YtkfpfcpmaejeoaaGreat.Q Go.Proofs.YtkfpfcpmaejeoaaGreat.GFnRetried

theorem sameInts_ok (l : List Int) (hl : l.length ≤ 1000000) : EvP (fun N => laws_sameInts N l l) (· = ((true, ()), ())) := by
  refine EvP.of (fun N => laws_sameInts.eq N _ _) (EvP.nneg rfl (EvP.to (a := .inr ((), ())) ?_ (EvP.some rfl)))
  refine EvP.count (f := fun N i (_ : Unit) => laws_sameInts.l0 N l l (l.length : Int) i) (n := l.length) (inv := fun _ _ => True) ?_ ?_ 0 () (by omega) trivial
  · intro i _ hi _ next
    refine EvP.step (fun N => laws_sameInts.l0.eq N _ _ _ _) (EvP.pos (by omega) (EvP.chk2 (by omega) (by omega) (EvP.chk2 (by omega) (by omega) (EvP.nneg rfl ?_))))
    rw [show IntKind.i64.wrap ((i : Int) + 1) = ((i + 1 : Nat) : Int) by rw [i64w (by omega) (by omega)]; omega]
    exact next () trivial
  · intro _ _
    exact EvP.step (fun N => laws_sameInts.l0.eq N _ _ _ _) (EvP.neg (by omega) (EvP.some rfl))
theorem sameHeaders_ok (f b v : Int) (d c t p : ByteArray) (l : List Int) (hl : l.length ≤ 1000000) : EvP (fun N => laws_sameHeaders N f b v d c t p l f b v d c t p l) (· = ((true, ()), ())) :=
  EvP.of (fun N => laws_sameHeaders.eq N _ _ _ _ _ _ _ _ _ _ _ _ _ _ _ _) (EvP.pos rfl (EvP.pos rfl (EvP.pos rfl (EvP.pos rfl (EvP.pos rfl (EvP.pos rfl (EvP.pos rfl (EvP.to (sameInts_ok l hl) (EvP.some rfl)))))))))
end Go.Proofs.YtkfpfcpmaejeoaaGreat.CFnRetried
