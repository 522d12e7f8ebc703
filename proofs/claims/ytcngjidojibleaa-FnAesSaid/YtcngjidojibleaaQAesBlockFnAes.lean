/- AES of a block, by both packages, forth and back. -/
import Derived.Test.YtcngjidojibleaaQAesSpecFnAes
set_option linter.unusedVariables false
set_option linter.unusedSimpArgs false
namespace Go.Proofs.Ytcngjidojibleaa.CFnAes
open Go Go.Proofs Go.Proofs.YtcngjidojibleaaPM Go.Proofs.Ytcngjidojibleaa.Q Go.Proofs.Ytcngjidojibleaa.GFnAes

/-- The keys of a text. -/
def KW (k : ByteArray) : Nat → Nat := (KS (byteAt k) 40).2
theorem KW_by (k : ByteArray) : By (KW k) := (KS_by (byteAt_lt k) 40).2
def aes (k s : ByteArray) : ByteArray := strL (L 16 (encN sb (KW k) 10 (byteAt s)))
def aesBack (k s : ByteArray) : ByteArray := strL (L 16 (decN usb (KW k) 10 (byteAt s)))
theorem enc_by (k s : ByteArray) : By (encN sb (KW k) 10 (byteAt s)) := By.encN (KW_by k) sbl (byteAt_lt s) 10
theorem dec_by (k s : ByteArray) : By (decN usb (KW k) 10 (byteAt s)) := By.decN (KW_by k) usb_lt 10 (byteAt_lt s)
theorem size16 (f : Nat → Nat) : (strL (L 16 f)).size = 16 := by rw [strL_size, L_len]
theorem byteAt_strL {f : Nat → Nat} (hf : By f) {n : Nat} : ∀ i, i < n → byteAt (strL (L n f)) i = f i := by
  intro i hi
  unfold byteAt
  rw [bytesL_strL (Bytes_L fun i _ => hf i), L_at hi, Int.toNat_natCast]
theorem str_back {s : ByteArray} (hs : s.size = 16) {f : Nat → Nat} (h : E16 f (byteAt s)) : strL (L 16 f) = s := by
  rw [L_eq h, ← hs, ← bytesL_L, strL_bytesL]
theorem back_aes (k : ByteArray) {s : ByteArray} (hs : s.size = 16) : aesBack k (aes k s) = s := by
  refine str_back hs fun i hi => ?_
  have h : E16 (byteAt (aes k s)) (encN sb (KW k) 10 (byteAt s)) := fun i hi => byteAt_strL (enc_by k s) i hi
  rw [E16.decN 10 h i hi]
  exact dec_enc (fun x h => usb_sb h) sbl (KW_by k) (byteAt_lt s) 10 i hi
theorem aes_back (k : ByteArray) {s : ByteArray} (hs : s.size = 16) : aes k (aesBack k s) = s := by
  refine str_back hs fun i hi => ?_
  have h : E16 (byteAt (aesBack k s)) (decN usb (KW k) 10 (byteAt s)) := fun i hi => byteAt_strL (dec_by k s) i hi
  rw [E16.encN 10 h i hi]
  exact enc_dec (fun x h => sb_usb h) usb_lt (KW_by k) 10 (byteAt_lt s) i hi
theorem aes_inj (k : ByteArray) {s t : ByteArray} (hs : s.size = 16) (ht : t.size = 16) (h : aes k s = aes k t) : s = t := by rw [← back_aes k hs, h, back_aes k ht]

/-- What both packages answer. -/
def aesOf (k s : ByteArray) : (ByteArray × (Bool × Unit)) × Unit := if k.size = 16 ∧ s.size = 16 then ((aes k s, (true, ())), ()) else ((⟨#[]⟩, (false, ())), ())
theorem AesBlock_impl (k s : ByteArray) : EvP (fun N => impl_AesBlock N k s) (· = aesOf k s) := by
  refine EvP.of (fun n => impl_AesBlock.eq n _ _) ?_
  unfold aesOf
  by_cases hk : k.size = 16
  · by_cases hs : s.size = 16
    · rw [if_pos ⟨hk, hs⟩]
      refine EvP.to (a := ((false, ()), ())) (EvP.to (EvP.of (fun n => impl_isKey.eq n _) (EvP.some rfl)) (EvP.no (by simp [hk]) (EvP.to (EvP.of (fun n => impl_isBlock.eq n _) (EvP.some rfl)) (EvP.some (by simp [hs]))))) (EvP.no rfl ?_)
      refine EvP.andK (cipherOf_ok hk) ?_
      rintro r ⟨hb, hr⟩
      rw [hr]
      exact EvP.to (encrypt_ok (KW_by k) hb hs) (EvP.some rfl)
    · rw [if_neg (fun h => hs h.2)]
      exact EvP.to (a := ((true, ()), ())) (EvP.to (EvP.of (fun n => impl_isKey.eq n _) (EvP.some rfl)) (EvP.no (by simp [hk]) (EvP.to (EvP.of (fun n => impl_isBlock.eq n _) (EvP.some rfl)) (EvP.some (by simp; omega))))) (EvP.yes rfl (EvP.some rfl))
  · rw [if_neg (fun h => hk h.1)]
    exact EvP.to (a := ((true, ()), ())) (EvP.to (EvP.of (fun n => impl_isKey.eq n _) (EvP.some rfl)) (EvP.yes (by simp; omega) (EvP.some rfl))) (EvP.yes rfl (EvP.some rfl))
theorem AesBlock_spec (k s : ByteArray) : EvP (fun N => spec_AesBlock N k s) (· = aesOf k s) := by
  refine EvP.of (fun n => spec_AesBlock.eq n _ _) ?_
  unfold aesOf
  by_cases hk : k.size = 16
  · by_cases hs : s.size = 16
    · rw [if_pos ⟨hk, hs⟩]
      refine EvP.to (a := ((false, ()), ())) (EvP.nneg (by omega) (EvP.some (by simp [hs]))) (EvP.no rfl ?_)
      refine EvP.to (a := ((aes k s, ()), ())) (EvP.of (fun n => spec_l3Block.eq n _ _) (EvP.andK (keys_spec hk) fun r hr => EvP.andK table_spec fun q hq => ?_)) (EvP.some rfl)
      rw [hr, hq]
      exact EvP.to (with_ok (KW_by k) hs) (EvP.some rfl)
    · rw [if_neg (fun h => hs h.2)]
      exact EvP.to (a := ((true, ()), ())) (EvP.nneg (by omega) (EvP.some (by simp; omega))) (EvP.yes rfl (EvP.some rfl))
  · rw [if_neg (fun h => hk h.1)]
    exact EvP.to (a := ((true, ()), ())) (EvP.npos (by omega) (EvP.some rfl)) (EvP.yes rfl (EvP.some rfl))
end Go.Proofs.Ytcngjidojibleaa.CFnAes
