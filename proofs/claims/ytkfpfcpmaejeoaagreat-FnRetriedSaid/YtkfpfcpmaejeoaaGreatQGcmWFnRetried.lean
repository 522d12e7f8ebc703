/- What is sealed: counted, with a tag over it and what is beside. -/
import Derived.Test.YtkfpfcpmaejeoaaGreatQCtrImplFnRetried
import Derived.Test.YtkfpfcpmaejeoaaGreatQGLink
set_option linter.unusedVariables false
set_option linter.unusedSimpArgs false
namespace Go.Proofs.YtkfpfcpmaejeoaaGreat.CFnRetried
open Go Go.Proofs Go.Proofs.YtkfpfcpmaejeoaaGreatPM Go.Proofs.YtkfpfcpmaejeoaaGreat.Q Go.Proofs.YtkfpfcpmaejeoaaGreat.G128 Go.Proofs.YtkfpfcpmaejeoaaGreat.GFnRetried

/-- Filled up to whole blocks. -/
def fz (s : ByteArray) : ByteArray := s ++ zs ((16 - s.size % 16) % 16)
theorem fz_size (s : ByteArray) : (fz s).size = s.size + (16 - s.size % 16) % 16 := by rw [fz, ByteArray.size_append, zs_size]
def Hk (key : ByteArray) : V := vOf (aes key (zs 16))
def gtext (beside sealed : ByteArray) : ByteArray := (fz beside ++ fz sealed) ++ (be 8 (8 * (beside.size : Int)) ++ be 8 (8 * (sealed.size : Int)))
theorem gtext_size (a b : ByteArray) : (gtext a b).size = (fz a).size + (fz b).size + 16 := by
  rw [gtext, ByteArray.size_append, ByteArray.size_append, ByteArray.size_append, be_size, be_size]
theorem gtext_16 (a b : ByteArray) : (gtext a b).size % 16 = 0 := by
  rw [gtext_size, fz_size, fz_size]; omega
def tagH (key beside sealed : ByteArray) : V := Gh (Hk key) (gtext beside sealed) ((gtext beside sealed).size / 16) 0 zero
def tagF (key nonce beside sealed : ByteArray) : ByteArray := xs (tOf (tagH key beside sealed)) (aes key (nonce ++ be 4 1))
theorem tagF_size (key nonce beside sealed : ByteArray) : (tagF key nonce beside sealed).size = 16 := by rw [tagF, xs_size, tOf_size]
def sealF (key nonce beside text : ByteArray) : ByteArray := ctr key nonce 2 text ++ tagF key nonce beside (ctr key nonce 2 text)
theorem sealF_size (key nonce beside text : ByteArray) : (sealF key nonce beside text).size = text.size + 16 := by rw [sealF, ByteArray.size_append, tagF_size, ctr_size]
theorem aes_size (k s : ByteArray) : (aes k s).size = 16 := size16 _
end Go.Proofs.YtkfpfcpmaejeoaaGreat.CFnRetried
