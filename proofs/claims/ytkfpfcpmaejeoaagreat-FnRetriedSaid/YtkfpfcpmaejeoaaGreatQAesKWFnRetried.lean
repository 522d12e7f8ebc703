/- AES of a text, forth and back. -/
import Derived.Test.YtkfpfcpmaejeoaaGreatQAesSpecFnRetried
set_option linter.unusedVariables false
set_option linter.unusedSimpArgs false
namespace Go.Proofs.YtkfpfcpmaejeoaaGreat.CFnRetried
open Go Go.Proofs Go.Proofs.YtkfpfcpmaejeoaaGreatPM Go.Proofs.YtkfpfcpmaejeoaaGreat.Q Go.Proofs.YtkfpfcpmaejeoaaGreat.GFnRetried

/-- The keys of a text. -/
def KW (k : ByteArray) : Nat → Nat := (KS (byteAt k) 40).2
theorem KW_by (k : ByteArray) : By (KW k) := (KS_by (byteAt_lt k) 40).2
def aes (k s : ByteArray) : ByteArray := strL (L 16 (encN sb (KW k) 10 (byteAt s)))
def aesBack (k s : ByteArray) : ByteArray := strL (L 16 (decN usb (KW k) 10 (byteAt s)))
theorem enc_by (k s : ByteArray) : By (encN sb (KW k) 10 (byteAt s)) := By.encN (KW_by k) sbl (byteAt_lt s) 10
theorem dec_by (k s : ByteArray) : By (decN usb (KW k) 10 (byteAt s)) := By.decN (KW_by k) usb_lt 10 (byteAt_lt s)
theorem size16 (f : Nat → Nat) : (strL (L 16 f)).size = 16 := by rw [strL_size, L_len]
theorem byteAt_strL {f : Nat → Nat} (hf : By f) {n : Nat} : ∀ i, i < n → byteAt (strL (L n f)) i = f i := by
  intro i hi
  unfold byteAt
  rw [bytesL_strL (Bytes_L fun i _ => hf i), L_at hi, Int.toNat_natCast]
theorem str_back {s : ByteArray} (hs : s.size = 16) {f : Nat → Nat} (h : E16 f (byteAt s)) : strL (L 16 f) = s := by
  rw [L_eq h, ← hs, ← bytesL_L, strL_bytesL]
theorem back_aes (k : ByteArray) {s : ByteArray} (hs : s.size = 16) : aesBack k (aes k s) = s := by
  refine str_back hs fun i hi => ?_
  have h : E16 (byteAt (aes k s)) (encN sb (KW k) 10 (byteAt s)) := fun i hi => byteAt_strL (enc_by k s) i hi
  rw [E16.decN 10 h i hi]
  exact dec_enc (fun x h => usb_sb h) sbl (KW_by k) (byteAt_lt s) 10 i hi
theorem aes_back (k : ByteArray) {s : ByteArray} (hs : s.size = 16) : aes k (aesBack k s) = s := by
  refine str_back hs fun i hi => ?_
  have h : E16 (byteAt (aesBack k s)) (decN usb (KW k) 10 (byteAt s)) := fun i hi => byteAt_strL (dec_by k s) i hi
  rw [E16.encN 10 h i hi]
  exact enc_dec (fun x h => sb_usb h) usb_lt (KW_by k) 10 (byteAt_lt s) i hi
theorem aes_inj (k : ByteArray) {s t : ByteArray} (hs : s.size = 16) (ht : t.size = 16) (h : aes k s = aes k t) : s = t := by rw [← back_aes k hs, h, back_aes k ht]

end Go.Proofs.YtkfpfcpmaejeoaaGreat.CFnRetried
