/- The program lays a text over another. -/
import Derived.Test.YtkfpfcpmaejeoaaGreatQXs
import Derived.Test.YtkfpfcpmaejeoaaGreatGFnRetriedx0
import Derived.Test.YtkfpfcpmaejeoaaGreatGFnRetriedx1
set_option linter.unusedVariables false
set_option linter.unusedSimpArgs false
namespace Go.Proofs.YtkfpfcpmaejeoaaGreat.CFnRetried
open Go Go.Proofs Go.Proofs.YtkfpfcpmaejeoaaGreatPM Go.Proofs.YtkfpfcpmaejeoaaGreat.Q Go.Proofs.YtkfpfcpmaejeoaaGreat.GFnRetried

theorem xored_ok {a b : ByteArray} (h : a.size ≤ b.size) (ha : a.size ≤ 1000000) : EvP (fun N => impl_xored N a b) (· = ((xs a b, ()), ())) := by
  refine EvP.of (fun N => impl_xored.eq N _ _) (EvP.to (a := (((), ()), (L a.size (fun i => byteAt a i ^^^ byteAt b i), ()))) ?_ (EvP.some rfl))
  rw [bytesL_L a, L_len]
  refine EvP.count (f := fun N i (p : List Int) => impl_xored.l0 N b (a.size : Int) i p) (n := a.size) (inv := fun i p => p = L a.size (cx (byteAt a) (byteAt b) i)) ?_ ?_ 0 _ (Nat.zero_le _) (by rw [cx_zero])
  · rintro i p hi rfl next
    refine EvP.step (fun N => impl_xored.l0.eq N _ _ _ _) (EvP.pos (by omega) ?_)
    rw [L_len]
    refine EvP.chk2 (by omega) (by omega) (EvP.chk2 (by omega) (by omega) (EvP.chk2 (by omega) (by omega) ?_))
    rw [Int.toNat_natCast, L_at hi, byteAt_bytesL, xor_u8 (cx_by (byteAt_lt a) (byteAt_lt b) i i) (byteAt_lt _ _), L_set, cx_succ, show IntKind.i64.wrap ((i : Int) + 1) = ((i + 1 : Nat) : Int) by rw [i64w (by omega) (by omega)]; omega]
    exact next _ rfl
  · rintro p rfl
    exact EvP.step (fun N => impl_xored.l0.eq N _ _ _ _) (EvP.neg (by omega) (EvP.some (by rw [cx_all (Nat.le_refl _)])))
end Go.Proofs.YtkfpfcpmaejeoaaGreat.CFnRetried
