/- The hash of a text that is not too long, as the implementation gives it. -/
import Derived.Test.YtknoemdkfhkkhaaQShaPadFnKeyed
set_option linter.unusedVariables false
set_option linter.unusedSimpArgs false
namespace Go.Proofs.Ytknoemdkfhkkhaa.CFnKeyed
open Go Go.Proofs Go.Proofs.YtknoemdkfhkkhaaPM Go.Proofs.Ytknoemdkfhkkhaa.Q Go.Proofs.Ytknoemdkfhkkhaa.GFnKeyed

def sha256 (s : ByteArray) : (ByteArray × (Bool × Unit)) × Unit := if 4000 < (s.size : Int) then (((⟨#[]⟩ : ByteArray), (false, ())), ()) else ((shaF s, (true, ())), ())
theorem Sha256_impl (s : ByteArray) : EvP (fun N => impl_Sha256 N s) (· = sha256 s) := by
  refine EvP.of (fun N => impl_Sha256.eq N _) (EvP.ite (fun h => EvP.some ?_) (fun h => EvP.to (sha_impl s (by omega)) (EvP.some ?_)))
  · rw [sha256, if_pos h]
  · rw [sha256, if_neg h]
end Go.Proofs.Ytknoemdkfhkkhaa.CFnKeyed
