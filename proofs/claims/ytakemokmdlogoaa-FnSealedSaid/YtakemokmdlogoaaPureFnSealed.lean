/- FnSealed: both packages seal alike; what is sealed is opened, and not with a bit turned. -/
import Derived.Test.YtakemokmdlogoaaQOpenFnSealed
import Derived.Test.YtakemokmdlogoaaQOneFnSealed
import Derived.Test.YtakemokmdlogoaaQGcmSpecFnSealed
import Derived.Test.YtakemokmdlogoaaQTurnedNFnSealed
import Derived.Test.YtakemokmdlogoaaQLawNumFnSealed
import Derived.Test.YtakemokmdlogoaaSFnSealed
set_option linter.unusedVariables false
set_option linter.unusedSimpArgs false
namespace Go.Proofs.Ytakemokmdlogoaa.Pure
open Go Go.Proofs Go.Proofs.YtakemokmdlogoaaPM Go.Proofs.Ytakemokmdlogoaa.Q Go.Proofs.Ytakemokmdlogoaa.G128 Go.Proofs.Ytakemokmdlogoaa.CFnSealed Go.Proofs.Ytakemokmdlogoaa.GFnSealed

theorem Seal_spec (key nonce beside text : ByteArray) : EvP (fun N => spec_SealText N key nonce beside text) (· = sealR key nonce beside text) := by
  refine EvP.of (fun N => spec_SealText.eq N _ _ _ _) (EvP.to (a := ((!(decide (key.size = 16 ∧ nonce.size = 12 ∧ beside.size ≤ 1500 ∧ text.size ≤ 1500)), ()), ())) (EvP.to (a := ((decide (key.size = 16 ∧ nonce.size = 12 ∧ beside.size ≤ 1500), ()), ())) ?_ (EvP.nite (fun h => EvP.some ?_) (fun h => EvP.some ?_))) (EvP.nite (fun h => EvP.some ?_) (fun h => ?_)))
  · refine EvP.of (fun N => spec_l5Said.eq N _ _ _) (EvP.ite (fun h => EvP.ite (fun h2 => EvP.some ?_) (fun h2 => EvP.some ?_)) (fun h => EvP.some ?_))
    · rw [dec_eq (q := key.size = 16 ∧ nonce.size = 12 ∧ beside.size ≤ 1500) (fun h3 => ⟨by omega, by omega, by omega⟩) (fun h3 => by omega)]
    · rw [decide_eq_false (by omega)]
    · rw [decide_eq_false (by omega)]
  · rw [decide_eq_false (by omega)]; rfl
  · by_cases h2 : text.size ≤ 1500
    · rw [decide_eq_true (show key.size = 16 ∧ nonce.size = 12 ∧ beside.size ≤ 1500 ∧ text.size ≤ 1500 by omega), decide_eq_false (by omega)]; rfl
    · rw [decide_eq_false (show ¬(key.size = 16 ∧ nonce.size = 12 ∧ beside.size ≤ 1500 ∧ text.size ≤ 1500) by omega), decide_eq_true (by omega)]; rfl
  · rw [sealR, if_neg h]
  · refine EvP.to (key_spec h.1) (EvP.to (seal_spec h.2.1 (by omega) (by omega)) (EvP.some ?_))
    rw [sealR, if_pos h]
theorem TagOf_impl {key nonce beside sealed : ByteArray} (hk : key.size = 16) (hn : nonce.size = 12) (hb : beside.size ≤ 1500) (hs : sealed.size ≤ 1500) :
    EvP (fun N => impl_TagOf N key nonce beside sealed) (· = ((tagF key nonce beside sealed, (true, ())), ())) := by
  refine EvP.of (fun N => impl_TagOf.eq N _ _ _ _) (EvP.to (a := ((false, ()), ())) (EvP.to (sealOk_ok key nonce beside) (EvP.nneg ⟨hk, hn, hb⟩ (EvP.some ?_))) (EvP.no rfl (EvP.andK (cipherOf_ok hk) ?_)))
  · rw [decide_eq_false (by omega)]
  · rintro r ⟨hb2, hr⟩
    rw [hr]
    exact EvP.to (tag_ok hb2 hn (by omega) (by omega)) (EvP.some rfl)
theorem Block_spec {key block : ByteArray} (hk : key.size = 16) (hs : block.size = 16) : EvP (fun N => spec_AesBlock N key block) (· = ((aes key block, (true, ())), ())) := by
  refine EvP.of (fun N => spec_AesBlock.eq N _ _) (EvP.to (a := ((false, ()), ())) (EvP.nneg (by omega) (EvP.some ?_)) (EvP.no rfl (EvP.to (a := ((aes key block, ()), ())) (EvP.of (fun N => spec_l3Block.eq N _ _) (EvP.andK (keys_spec hk) fun r hr => EvP.andK table_spec fun u hu => ?_)) (EvP.some rfl))))
  · rw [decide_eq_true (show (block.size : Int) = 16 by omega)]; rfl
  · rw [hr, hu]
    exact EvP.to (with_ok (KW_by key) hs) (EvP.some rfl)
theorem no_sealed {key nonce beside text t : ByteArray} {p : Nat} (h0 : Hk key ≠ zero) (h : One t (sealF key nonce beside text) p) : ¬ TagRight key nonce beside t := by
  have hs := sealF_size key nonce beside text
  have hc := ctr_size key nonce 2 text
  have hg := tagF_size key nonce beside (ctr key nonce 2 text)
  have hz := h.size
  have hp := h.lt
  have hsz : (sealF key nonce beside text).size - 16 = text.size := by omega
  have e1 : (sealF key nonce beside text).extract 0 text.size = ctr key nonce 2 text := extract_app_one (by omega)
  have e2 : (sealF key nonce beside text).extract text.size (sealF key nonce beside text).size = tagF key nonce beside (ctr key nonce 2 text) := by rw [hs]; exact extract_app_two (by omega) (by omega)
  unfold TagRight
  rw [show t.size - 16 = text.size by omega]
  by_cases hlt : p < text.size
  · have a1 : One (t.extract 0 text.size) (ctr key nonce 2 text) p := by
      rw [← e1]
      refine ⟨by rw [extract_size (by omega), extract_size (by omega)], by rw [extract_size (by omega)]; omega, ?_, fun i hi => ?_⟩
      · rw [byteAt_extract (by omega), byteAt_extract (by omega), Nat.zero_add]; exact h.ne
      · by_cases hil : i < text.size
        · rw [byteAt_extract (by omega), byteAt_extract (by omega), Nat.zero_add]; exact h.eq i hi
        · have z1 : ∀ (u : ByteArray), u.size ≤ i → byteAt u i = 0 := fun u hu => by
            unfold byteAt
            rw [List.getD_eq_getElem?_getD, List.getElem?_eq_none (by rw [bytesL_len]; exact hu)]
            rfl
          rw [z1 _ (by rw [extract_size (by omega)]; omega), z1 _ (by rw [extract_size (by omega)]; omega)]
    have a2 : t.extract text.size t.size = tagF key nonce beside (ctr key nonce 2 text) := by
      rw [← e2]
      refine str_ext (by rw [extract_size (by omega), extract_size (by omega)]; omega) fun i hi => ?_
      rw [extract_size (by omega)] at hi
      rw [byteAt_extract (by omega), byteAt_extract (by omega)]
      exact h.eq _ (by omega)
    rw [a2]
    exact tag_sealed a1 h0
  · have a1 : t.extract 0 text.size = ctr key nonce 2 text := by
      rw [← e1]
      refine str_ext (by rw [extract_size (by omega), extract_size (by omega)]) fun i hi => ?_
      rw [extract_size (by omega)] at hi
      rw [byteAt_extract (by omega), byteAt_extract (by omega), Nat.zero_add]
      exact h.eq _ (by omega)
    rw [a1, ← e2]
    intro e
    have := congrArg (fun z => byteAt z (p - text.size)) e
    rw [byteAt_extract (by omega), byteAt_extract (by omega), show text.size + (p - text.size) = p by omega] at this
    exact h.ne this.symm
theorem FnSealed (a0 : List Int) (h0 : ∀ n ∈ a0, 0 ≤ n ∧ n ≤ 255) (s0 : a0.length ≤ 140737488351232) (a1 : List Int) (h1 : ∀ n ∈ a1, 0 ≤ n ∧ n ≤ 255) (s1 : a1.length ≤ 140737488351232) : ∃ N, laws_FnSealed N a0 a1 = some ((true, ()), ()) := by
  refine EvP.fin (EvP.of (fun k => laws_FnSealed.eq k _ _) (EvP.ite (fun _ => EvP.some rfl) (fun _ => EvP.andK (spec_DrawSealText_s h0) ?_)))
  rintro ⟨⟨key, nonce, beside, text, ⟨⟩⟩, ⟨⟩⟩ ⟨b1, b2, b3, b4, -⟩
  dsimp only at b1 b2 b3 b4
  refine EvP.to (Seal_impl key nonce beside text) (EvP.to (Seal_spec key nonce beside text) ?_)
  refine EvP.to (a := ((false, ()), ())) (EvP.no (by simp) (EvP.some (by simp))) (EvP.no rfl ?_)
  by_cases hc : key.size = 16 ∧ nonce.size = 12 ∧ beside.size ≤ 1500 ∧ text.size ≤ 1500
  · rw [show sealR key nonce beside text = _ from if_pos hc]
    obtain ⟨hk, hn, hb, ht⟩ := hc
    have hs := sealF_size key nonce beside text
    have hcs := ctr_size key nonce 2 text
    have hg := tagF_size key nonce beside (ctr key nonce 2 text)
    have e1 : (sealF key nonce beside text).extract 0 text.size = ctr key nonce 2 text := extract_app_one (by omega)
    have e2 : (sealF key nonce beside text).extract text.size (sealF key nonce beside text).size = tagF key nonce beside (ctr key nonce 2 text) := by rw [hs]; exact extract_app_two (by omega) (by omega)
    refine EvP.no rfl (EvP.to (Open_impl _ _ _ _ (by (try dsimp only); omega)) ?_)
    dsimp only
    rw [open_seal hk hn hb ht, i64w (n := ((sealF key nonce beside text).size : Int) - 16) (by omega) (by omega)]
    refine EvP.chk2 (by omega) (by omega) ?_
    rw [show Int.toNat (((sealF key nonce beside text).size : Int) - 16) = text.size by omega, e1]
    refine EvP.to (TagOf_impl hk hn hb (by omega)) (EvP.to (a := ((false, ()), ())) ?_ (EvP.no rfl ?_))
    · refine EvP.no rfl (EvP.no rfl (EvP.nneg rfl (EvP.nneg ?_ (EvP.chk3 (by omega) (by omega) (by omega) (EvP.some ?_)))))
      · rw [i64w (by omega) (by omega)]; omega
      · rw [Int.toNat_natCast, Int.toNat_natCast, e2]
        dsimp only
        rw [decide_eq_true rfl]
        rfl
    · refine EvP.to (Block_spec hk (show (strL (List.replicate 16 (0 : Int))).size = 16 from rfl)) (EvP.ite (fun _ => EvP.some rfl) (fun hH => ?_))
      have hH : Hk key ≠ zero := Hk_ne hH
      refine EvP.andK (lawNumber_ok h1 s1) ?_
      rintro ⟨⟨x, ⟨⟩⟩, ⟨⟩⟩ ⟨hx1, hx2⟩
      dsimp only at hx1 hx2
      refine EvP.andK (turnedN_ok (by (try dsimp only); omega) (by (try dsimp only); omega) hx1 hx2) ?_
      rintro ⟨⟨t, ⟨⟩⟩, ⟨⟩⟩ ⟨ht1, p, hp1, hp2, hp3⟩
      dsimp only at ht1 hp1 hp2 hp3
      refine EvP.to (Open_impl _ _ _ _ (by (try dsimp only); omega)) ?_
      rw [show openR key nonce beside t = _ from openR_no fun h => no_sealed hH ⟨ht1, by omega, hp2, hp3⟩ h.2]
      refine EvP.no rfl (EvP.andK (turnedN_ok (by (try dsimp only); omega) (by (try dsimp only); omega) hx1 hx2) ?_)
      rintro ⟨⟨n', ⟨⟩⟩, ⟨⟩⟩ ⟨hn1, p', hp1', hp2', hp3'⟩
      dsimp only at hn1 hp1' hp2' hp3'
      refine EvP.to (Open_impl _ _ _ _ (by (try dsimp only); omega)) ?_
      rw [show openR key n' beside (sealF key nonce beside text) = _ from openR_no fun h => by
        have h2 := h.2
        unfold TagRight at h2
        rw [show (sealF key nonce beside text).size - 16 = text.size by omega, e1, e2] at h2
        exact tag_nonce (by omega) hn (fun e => hp2' (by rw [e])) h2]
      refine EvP.no rfl (EvP.ite (fun _ => EvP.some rfl) (fun hbz => EvP.andK (turnedN_ok (by (try dsimp only); omega) (by (try dsimp only); omega) hx1 hx2) ?_))
      rintro ⟨⟨b', ⟨⟩⟩, ⟨⟩⟩ ⟨hb1', p2, hq1, hq2, hq3⟩
      dsimp only at hb1' hq1 hq2 hq3
      refine EvP.to (Open_impl _ _ _ _ (by (try dsimp only); omega)) ?_
      rw [show openR key nonce b' (sealF key nonce beside text) = _ from openR_no fun h => by
        have h2 := h.2
        unfold TagRight at h2
        rw [show (sealF key nonce beside text).size - 16 = text.size by omega, e1, e2] at h2
        exact tag_beside (s := b') (t := beside) ⟨hb1', by omega, hq2, hq3⟩ hH h2]
      exact EvP.some rfl
  · rw [show sealR key nonce beside text = _ from if_neg hc]
    exact EvP.yes rfl (EvP.some rfl)
end Go.Proofs.Ytakemokmdlogoaa.Pure
