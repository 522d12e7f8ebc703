/- The keyed hash: what both packages give for a key and a text that are not too long. -/
import Derived.Test.YtknoemdkfhkkhaaQShaFullFnKeyed
import Derived.Test.YtknoemdkfhkkhaaQHmacFnKeyed
set_option linter.unusedVariables false
set_option linter.unusedSimpArgs false
namespace Go.Proofs.Ytknoemdkfhkkhaa.CFnKeyed
open Go Go.Proofs Go.Proofs.YtknoemdkfhkkhaaPM Go.Proofs.Ytknoemdkfhkkhaa.Q Go.Proofs.Ytknoemdkfhkkhaa.GFnKeyed

def hmacR (k s : ByteArray) : (ByteArray × (Bool × Unit)) × Unit := if 2000 < (k.size : Int) ∨ 2000 < (s.size : Int) then (((⟨#[]⟩ : ByteArray), (false, ())), ()) else ((hmacF k s, (true, ())), ())
theorem Hmac_impl (k s : ByteArray) : EvP (fun N => impl_HmacSha N k s) (· = hmacR k s) := by
  refine EvP.of (fun N => impl_HmacSha.eq N _ _) (EvP.to (a := ((decide (2000 < (k.size : Int) ∨ 2000 < (s.size : Int)), ()), ())) ?_ (EvP.ite (fun h => EvP.some ?_) (fun h => EvP.to (hmac_impl k s (by omega) (by omega)) (EvP.some ?_))))
  · refine EvP.ite (fun h => EvP.some ?_) (fun h => EvP.some ?_)
    · simp [h]
    · simp [h]
  · rw [hmacR, if_pos h]
  · rw [hmacR, if_neg h]
theorem Hmac_spec (k s : ByteArray) : EvP (fun N => spec_HmacSha N k s) (· = hmacR k s) := by
  refine EvP.of (fun N => spec_HmacSha.eq N _ _) (EvP.to (a := ((decide (2000 < (k.size : Int) ∨ 2000 < (s.size : Int)), ()), ())) ?_ (EvP.ite (fun h => EvP.some ?_) (fun h => EvP.to new_spec (EvP.to (hmac_spec k s (by omega) (by omega)) (EvP.some ?_)))))
  · refine EvP.ite (fun h => EvP.some ?_) (fun h => EvP.some ?_)
    · simp [h]
    · simp [h]
  · rw [hmacR, if_pos h]
  · rw [hmacR, if_neg h]
end Go.Proofs.Ytknoemdkfhkkhaa.CFnKeyed
