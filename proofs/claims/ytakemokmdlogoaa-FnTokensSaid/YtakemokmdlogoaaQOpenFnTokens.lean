/- What is sealed is opened. -/
import Derived.Test.YtakemokmdlogoaaQGcmImplFnTokens
set_option linter.unusedVariables false
set_option linter.unusedSimpArgs false
namespace Go.Proofs.Ytakemokmdlogoaa.CFnTokens
open Go Go.Proofs Go.Proofs.YtakemokmdlogoaaPM Go.Proofs.Ytakemokmdlogoaa.Q Go.Proofs.Ytakemokmdlogoaa.G128 Go.Proofs.Ytakemokmdlogoaa.GFnTokens

theorem oin_impl (n a b : Int) : EvP (fun N => impl_in N n a b) (· = ((decide (a ≤ n ∧ n ≤ b), ()), ())) :=
  EvP.of (fun N => impl_in.eq N _ _ _) (EvP.ite (fun h => EvP.some (by simp [h])) (fun h => EvP.some (by simp [h])))
def OpenOk (key nonce beside sealed : ByteArray) : Prop := key.size = 16 ∧ nonce.size = 12 ∧ beside.size ≤ 1500 ∧ 16 ≤ sealed.size ∧ sealed.size ≤ 1516
instance (key nonce beside sealed : ByteArray) : Decidable (OpenOk key nonce beside sealed) := by unfold OpenOk; infer_instance
def TagRight (key nonce beside sealed : ByteArray) : Prop := tagF key nonce beside (sealed.extract 0 (sealed.size - 16)) = sealed.extract (sealed.size - 16) sealed.size
instance (key nonce beside sealed : ByteArray) : Decidable (TagRight key nonce beside sealed) := by unfold TagRight; infer_instance
def openR (key nonce beside sealed : ByteArray) : (ByteArray × (Bool × Unit)) × Unit :=
  if OpenOk key nonce beside sealed ∧ TagRight key nonce beside sealed then ((ctr key nonce 2 (sealed.extract 0 (sealed.size - 16)), (true, ())), ()) else (((⟨#[]⟩ : ByteArray), (false, ())), ())
theorem openR_no {key nonce beside sealed : ByteArray} (h : ¬(OpenOk key nonce beside sealed ∧ TagRight key nonce beside sealed)) : openR key nonce beside sealed = (((⟨#[]⟩ : ByteArray), (false, ())), ()) := if_neg h
theorem Open_impl (key nonce beside sealed : ByteArray) (hsz : sealed.size ≤ 1000000000) : EvP (fun N => impl_OpenText N key nonce beside sealed) (· = openR key nonce beside sealed) := by
  refine EvP.of (fun N => impl_OpenText.eq N _ _ _ _) ?_
  rw [i64w (n := (sealed.size : Int) - 16) (by omega) (by omega)]
  refine EvP.to (a := ((!(decide (OpenOk key nonce beside sealed)), ()), ())) (EvP.to (sealOk_ok key nonce beside) (EvP.nite (fun h => EvP.some ?_) (fun h => EvP.to (oin_impl _ 0 1500) (EvP.some ?_)))) (EvP.nite (fun h => EvP.some ?_) (fun h => ?_))
  · rw [decide_eq_false (by unfold OpenOk; omega)]; rfl
  · rw [dec_eq (q := OpenOk key nonce beside sealed) (fun h2 => by unfold OpenOk; omega) (fun h2 => by unfold OpenOk at h2; omega)]
  · rw [openR, if_neg fun h2 => h h2.1]
  · have h3 := h
    unfold OpenOk at h3
    have e1 : (sealed.extract 0 (sealed.size - 16)).size ≤ 1500 := by rw [extract_size (by omega)]; omega
    refine EvP.andK (cipherOf_ok h3.1) ?_
    rintro r ⟨hb, hr⟩
    rw [hr]
    refine EvP.chk2 (by omega) (by omega) ?_
    rw [show Int.toNat ((sealed.size : Int) - 16) = sealed.size - 16 by omega, Int.toNat_natCast]
    refine EvP.to (tag_ok hb h3.2.1 (by omega) (by omega)) (EvP.chk3 (by omega) (by omega) (by omega) ?_)
    refine EvP.nite (fun h4 => EvP.some ?_) (fun h4 => EvP.chk2 (by omega) (by omega) (EvP.to (turned_ok h3.1 hb h3.2.1 (by omega)) (EvP.some ?_)))
    · rw [openR, if_neg fun h5 => h4 h5.2]
    · rw [openR, if_pos ⟨h, h4⟩]
theorem open_seal {key nonce beside text : ByteArray} (hk : key.size = 16) (hn : nonce.size = 12) (hb : beside.size ≤ 1500) (ht : text.size ≤ 1500) :
    openR key nonce beside (sealF key nonce beside text) = ((text, (true, ())), ()) := by
  have hs := sealF_size key nonce beside text
  have hc := ctr_size key nonce 2 text
  have hg := tagF_size key nonce beside (ctr key nonce 2 text)
  have e1 : (sealF key nonce beside text).extract 0 ((sealF key nonce beside text).size - 16) = ctr key nonce 2 text := by
    rw [hs]; exact extract_app_one (by omega)
  have e2 : (sealF key nonce beside text).extract ((sealF key nonce beside text).size - 16) (sealF key nonce beside text).size = tagF key nonce beside (ctr key nonce 2 text) := by
    rw [hs]; exact extract_app_two (by omega) (by omega)
  rw [openR, if_pos ⟨by unfold OpenOk; omega, by unfold TagRight; rw [e1, e2]⟩, e1, ctr_twice]
end Go.Proofs.Ytakemokmdlogoaa.CFnTokens
