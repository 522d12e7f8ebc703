/- What is sealed: counted, with a tag over it and what is beside. -/
import Derived.Test.YtakemokmdlogoaaQCtrImplFnTokens
import Derived.Test.YtakemokmdlogoaaQGLink
set_option linter.unusedVariables false
set_option linter.unusedSimpArgs false
namespace Go.Proofs.Ytakemokmdlogoaa.CFnTokens
open Go Go.Proofs Go.Proofs.YtakemokmdlogoaaPM Go.Proofs.Ytakemokmdlogoaa.Q Go.Proofs.Ytakemokmdlogoaa.G128 Go.Proofs.Ytakemokmdlogoaa.GFnTokens

def zs (n : Nat) : ByteArray := strL (List.replicate n 0)
theorem zs_size (n : Nat) : (zs n).size = n := by rw [zs, strL_size, List.length_replicate]
theorem zs_succ (n : Nat) : zs (n + 1) = ⟨#[0]⟩ ++ zs n := by rw [zs, List.replicate_succ, show (0 : Int) :: List.replicate n 0 = [0] ++ List.replicate n 0 from rfl, strL_append]; rfl
theorem repL_zs : ∀ k, repL (⟨#[0]⟩ : ByteArray) k = zs k
  | 0 => rfl
  | k + 1 => by
    rw [zs_succ, ← repL_zs k]
    apply ByteArray.ext
    simp [repL, Lib.repeatL]
/-- Filled up to whole blocks. -/
def fz (s : ByteArray) : ByteArray := s ++ zs ((16 - s.size % 16) % 16)
theorem fz_size (s : ByteArray) : (fz s).size = s.size + (16 - s.size % 16) % 16 := by rw [fz, ByteArray.size_append, zs_size]
def Hk (key : ByteArray) : V := vOf (aes key (zs 16))
/-- Two texts over one another. -/
def xs (a b : ByteArray) : ByteArray := strL (L a.size fun i => byteAt a i ^^^ byteAt b i)
theorem xs_size (a b : ByteArray) : (xs a b).size = a.size := by rw [xs, strL_size, L_len]
def gtext (beside sealed : ByteArray) : ByteArray := (fz beside ++ fz sealed) ++ (be 8 (8 * (beside.size : Int)) ++ be 8 (8 * (sealed.size : Int)))
theorem gtext_size (a b : ByteArray) : (gtext a b).size = (fz a).size + (fz b).size + 16 := by
  rw [gtext, ByteArray.size_append, ByteArray.size_append, ByteArray.size_append, be_size, be_size]
theorem gtext_16 (a b : ByteArray) : (gtext a b).size % 16 = 0 := by
  rw [gtext_size, fz_size, fz_size]; omega
def tagH (key beside sealed : ByteArray) : V := Gh (Hk key) (gtext beside sealed) ((gtext beside sealed).size / 16) 0 zero
def tagF (key nonce beside sealed : ByteArray) : ByteArray := xs (tOf (tagH key beside sealed)) (aes key (nonce ++ be 4 1))
theorem tagF_size (key nonce beside sealed : ByteArray) : (tagF key nonce beside sealed).size = 16 := by rw [tagF, xs_size, tOf_size]
def sealF (key nonce beside text : ByteArray) : ByteArray := ctr key nonce 2 text ++ tagF key nonce beside (ctr key nonce 2 text)
theorem sealF_size (key nonce beside text : ByteArray) : (sealF key nonce beside text).size = text.size + 16 := by rw [sealF, ByteArray.size_append, tagF_size, ctr_size]
theorem aes_size (k s : ByteArray) : (aes k s).size = 16 := size16 _
end Go.Proofs.Ytakemokmdlogoaa.CFnTokens
