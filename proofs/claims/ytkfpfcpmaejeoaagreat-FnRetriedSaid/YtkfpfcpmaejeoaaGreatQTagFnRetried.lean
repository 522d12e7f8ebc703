/- Both packages give the same tag. -/
import Derived.Test.YtkfpfcpmaejeoaaGreatQGcmImplFnRetried
import Derived.Test.YtkfpfcpmaejeoaaGreatQGcmSpecFnRetried
import Derived.Test.YtkfpfcpmaejeoaaGreatTHexFnRetried
set_option linter.unusedVariables false
set_option linter.unusedSimpArgs false
set_option maxRecDepth 1000000
namespace Go.Proofs.YtkfpfcpmaejeoaaGreat.CFnRetried
open Go Go.Proofs Go.Proofs.YtkfpfcpmaejeoaaGreatPM Go.Proofs.YtkfpfcpmaejeoaaGreat.Q Go.Proofs.YtkfpfcpmaejeoaaGreat.GFnRetried

def rkey : ByteArray := ⟨#[190, 12, 105, 11, 159, 102, 87, 90, 29, 118, 107, 84, 227, 104, 200, 78]⟩
def rnonce : ByteArray := ⟨#[70, 21, 153, 211, 93, 99, 43, 242, 35, 152, 37, 187]⟩
theorem rkey_T (n : Nat) : impl_ReadHex_T (n + 400) (⟨#[98, 101, 48, 99, 54, 57, 48, 98, 57, 102, 54, 54, 53, 55, 53, 97, 49, 100, 55, 54, 54, 98, 53, 52, 101, 51, 54, 56, 99, 56, 52, 101]⟩ : ByteArray) = some ((rkey, (true, ())), ()) := by kernel_rfl
theorem rnonce_T (n : Nat) : impl_ReadHex_T (n + 400) (⟨#[52, 54, 49, 53, 57, 57, 100, 51, 53, 100, 54, 51, 50, 98, 102, 50, 50, 51, 57, 56, 50, 53, 98, 98]⟩ : ByteArray) = some ((rnonce, (true, ())), ()) := by kernel_rfl
theorem hex_of {s t : ByteArray} (h : ∀ n, impl_ReadHex_T (n + 400) s = some ((t, (true, ())), ())) : EvP (fun N => impl_ReadHex N s) (· = ((t, (true, ())), ())) :=
  EvP.from 400 (fun n hn => by rw [impl_ReadHex_T_eq, show n = (n - 400) + 400 by omega]; exact h _) rfl
def tagR (o p : ByteArray) : (ByteArray × (Bool × Unit)) × Unit :=
  if 20 < (o.size : Int) ∨ 1000 < (p.size : Int) then (((⟨#[]⟩ : ByteArray), (false, ())), ()) else ((sealF rkey rnonce ((be 1 (o.size : Int) ++ o) ++ p) ⟨#[]⟩, (true, ())), ())
theorem Tag_impl (o p : ByteArray) : EvP (fun N => impl_RetryTag N o p) (· = tagR o p) := by
  refine EvP.of (fun N => impl_RetryTag.eq N _ _) (EvP.to (a := ((decide (20 < (o.size : Int) ∨ 1000 < (p.size : Int)), ()), ())) (EvP.ite (fun h => EvP.some (by simp [h])) (fun h => EvP.some (by simp [h]))) (EvP.ite (fun h => EvP.some ?_) (fun h => ?_)))
  · rw [tagR, if_pos h]
  · refine EvP.to (hex_of rkey_T) (EvP.to (hex_of rnonce_T) ?_)
    refine EvP.to (a := ((be 1 (o.size : Int) ++ o, ()), ())) (EvP.of (fun N => impl_byteCounted.eq N _) ?_) ?_
    · rw [u64i (n := (o.size : Int)) (by omega) (by omega)]
      exact EvP.to (bigEndian_ok _ 1 (by omega) (by decide)) (EvP.chk1 (by (try dsimp only); rw [be_size]; omega) (EvP.some rfl))
    · refine EvP.chk1 (by (try dsimp only); rw [ByteArray.size_append, be_size]; omega) (EvP.to (Seal_impl _ _ _ _) (EvP.some ?_))
      rw [tagR, if_neg h, sealR, if_pos ⟨rfl, rfl, by (try dsimp only); rw [ByteArray.size_append, ByteArray.size_append, be_size]; omega, by decide⟩]
theorem l10Tag_ok {o p : ByteArray} (ho : o.size ≤ 20) (hp : p.size ≤ 1000) : EvP (fun N => spec_l10Tag N o p) (· = ((sealF rkey rnonce ((be 1 (o.size : Int) ++ o) ++ p) ⟨#[]⟩, ()), ())) := by
  refine EvP.of (fun N => spec_l10Tag.eq N _ _) ?_
  refine EvP.to (key_spec (key := rkey) rfl) (EvP.to (a := ((be 1 (o.size : Int) ++ o, ()), ())) (EvP.of (fun N => spec_l2Id.eq N _) (EvP.to (fixed_ok _ 1 (by decide)) (EvP.chk1 (by (try dsimp only); rw [be_size]; omega) (EvP.some rfl)))) ?_)
  refine EvP.chk1 (by (try dsimp only); rw [ByteArray.size_append, be_size]; omega) (EvP.to (seal_spec (key := rkey) (nonce := rnonce) rfl (by (try dsimp only); rw [ByteArray.size_append, ByteArray.size_append, be_size]; omega) (by decide)) (EvP.some rfl))
end Go.Proofs.YtkfpfcpmaejeoaaGreat.CFnRetried
