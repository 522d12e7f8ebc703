/- The program seals so. -/
import Derived.Test.YtkfpfcpmaejeoaaGreatQGcmWFnRetried
import Derived.Test.YtkfpfcpmaejeoaaGreatQXoredFnRetried
import Derived.Test.YtkfpfcpmaejeoaaGreatQPolyFnRetried
set_option linter.unusedVariables false
set_option linter.unusedSimpArgs false
namespace Go.Proofs.YtkfpfcpmaejeoaaGreat.CFnRetried
open Go Go.Proofs Go.Proofs.YtkfpfcpmaejeoaaGreatPM Go.Proofs.YtkfpfcpmaejeoaaGreat.Q Go.Proofs.YtkfpfcpmaejeoaaGreat.G128 Go.Proofs.YtkfpfcpmaejeoaaGreat.GFnRetried

theorem filled_ok {s : ByteArray} (hs : s.size ≤ 1000000) : EvP (fun N => impl_filled N s) (· = ((fz s, ()), ())) := by
  refine EvP.of (fun N => impl_filled.eq N _) ?_
  have e : Int.tmod (IntKind.i64.wrap (16 - (Int.tmod (s.size : Int) 16))) 16 = (((16 - s.size % 16) % 16 : Nat) : Int) := by
    have e0 : Int.tmod (s.size : Int) 16 = ((s.size % 16 : Nat) : Int) := by rw [Int.tmod_eq_emod_of_nonneg (by omega)]; omega
    rw [e0, i64w (by omega) (by omega), Int.tmod_eq_emod_of_nonneg (by omega)]
    omega
  rw [e]
  have e1 : (⟨#[0]⟩ : ByteArray).size = 1 := rfl
  refine EvP.to (a := ((zs ((16 - s.size % 16) % 16), ()), ())) (EvP.of (fun N => strings_Repeat.eq N _ _) (EvP.chk1 (by omega) (EvP.chk1 (by omega) (EvP.chk1 (by rw [e1, Int.toNat_natCast]; omega) (EvP.some (by rw [Int.toNat_natCast, repL_zs])))))) ?_
  exact EvP.chk1 (by (try dsimp only); rw [zs_size]; omega) (EvP.some rfl)
theorem zs16 : be 8 0 ++ be 8 0 = zs 16 := by
  show strL (BE 8 0) ++ strL (BE 8 0) = _
  rw [← strL_append]
  rfl
theorem tag_ok {key nonce beside sealed : ByteArray} {p1 : List Int} (hb : BoxOK p1) (hn : nonce.size = 12) (h1 : beside.size ≤ 100000) (h2 : sealed.size ≤ 100000) :
    EvP (fun N => impl_cipher_tag N nonce beside sealed p1 (L 176 (KW key))) (· = ((tagF key nonce beside sealed, ()), (((), ((), ())), (p1, (L 176 (KW key), ()))))) := by
  have enc : ∀ s : ByteArray, s.size = 16 → EvP (fun N => impl_cipher_encrypt N s p1 (L 176 (KW key))) (· = ((aes key s, ()), (((), ((), ())), (p1, (L 176 (KW key), ()))))) := fun s hs => encrypt_ok (KW_by key) hb hs
  have f1 := fz_size beside
  have f2 := fz_size sealed
  refine EvP.of (fun N => impl_cipher_tag.eq N _ _ _ _ _) (EvP.to (bigEndian_ok 0 8 (by decide) (by decide)) (EvP.to (bigEndian_ok 0 8 (by decide) (by decide)) (EvP.chk1 (by (try dsimp only); rw [be_size]; decide) ?_)))
  dsimp only
  rw [zs16]
  refine EvP.to (enc _ (zs_size 16)) (EvP.to (polyOf_impl (aes_size _ _)) ?_)
  rw [i64w (n := 8 * (beside.size : Int)) (by omega) (by omega), u64i (n := 8 * (beside.size : Int)) (by omega) (by omega), i64w (n := 8 * (sealed.size : Int)) (by omega) (by omega), u64i (n := 8 * (sealed.size : Int)) (by omega) (by omega)]
  refine EvP.to (bigEndian_ok _ 8 (by omega) (by decide)) (EvP.to (bigEndian_ok _ 8 (by omega) (by decide)) (EvP.chk1 (by (try dsimp only); rw [be_size, be_size]; decide) ?_))
  refine EvP.to (filled_ok (by omega)) (EvP.to (filled_ok (by omega)) (EvP.chk1 (by (try dsimp only); omega) (EvP.chk1 (by (try dsimp only); rw [ByteArray.size_append, ByteArray.size_append, be_size, be_size]; omega) ?_)))
  have hg := gtext_size beside sealed
  refine EvP.to (ghash_impl (Hk key) (s := gtext beside sealed) (by omega) (gtext_16 _ _)) (EvP.to (text_impl _) (EvP.to (bigEndian_ok 1 4 (by decide) (by decide)) (EvP.chk1 (by (try dsimp only); rw [be_size]; omega) ?_)))
  refine EvP.to (enc _ (by (try dsimp only); rw [ByteArray.size_append, be_size, hn])) (EvP.to (xored_ok (by rw [tOf_size, aes_size]; exact Nat.le_refl _) (by rw [tOf_size]; decide)) (EvP.some rfl))
theorem turned_ok {key nonce text : ByteArray} {p1 : List Int} (hk : key.size = 16) (hb : BoxOK p1) (hn : nonce.size = 12) (h : text.size ≤ 1000000) :
    EvP (fun N => impl_cipher_turned N nonce text p1 (L 176 (KW key))) (· = ((ctr key nonce 2 text, ()), (((), ((), ())), (p1, (L 176 (KW key), ()))))) := by
  refine EvP.of (fun N => impl_cipher_turned.eq N _ _ _ _) (EvP.to (bigEndian_ok 2 4 (by decide) (by decide)) (EvP.chk1 (by (try dsimp only); rw [be_size]; omega) ?_))
  have e1 : (nonce ++ be 4 2).extract 0 12 = nonce := extract_app_one hn.symm
  have e2 : (nonce ++ be 4 2).extract 12 16 = be 4 2 := extract_app_two hn.symm (by rw [be_size, hn])
  have := counter_ok (start := nonce ++ be 4 2) (text := text) hk hb (by rw [ByteArray.size_append, be_size, hn]) h
  rw [e1, e2, vof_be] at this
  exact EvP.to this (EvP.some rfl)
def sealR (key nonce beside text : ByteArray) : (ByteArray × (Bool × Unit)) × Unit :=
  if key.size = 16 ∧ nonce.size = 12 ∧ beside.size ≤ 1500 ∧ text.size ≤ 1500 then ((sealF key nonce beside text, (true, ())), ()) else (((⟨#[]⟩ : ByteArray), (false, ())), ())
theorem sealOk_ok (key nonce beside : ByteArray) : EvP (fun N => impl_sealOk N key nonce beside) (· = ((decide (key.size = 16 ∧ nonce.size = 12 ∧ beside.size ≤ 1500), ()), ())) := by
  refine EvP.of (fun N => impl_sealOk.eq N _ _ _) (EvP.to (EvP.of (fun N => impl_isKey.eq N _) (EvP.some rfl)) (EvP.ite (fun h => EvP.ite (fun h2 => EvP.some ?_) (fun h2 => EvP.some ?_)) (fun h => EvP.some ?_)))
  · rw [dec_eq (q := key.size = 16 ∧ nonce.size = 12 ∧ beside.size ≤ 1500) (fun h3 => ⟨by omega, by omega, by omega⟩) (fun h3 => by omega)]
  · rw [decide_eq_false (by omega)]
  · rw [decide_eq_false (by omega)]
theorem Seal_impl (key nonce beside text : ByteArray) : EvP (fun N => impl_SealText N key nonce beside text) (· = sealR key nonce beside text) := by
  refine EvP.of (fun N => impl_SealText.eq N _ _ _ _) (EvP.to (a := ((!(decide (key.size = 16 ∧ nonce.size = 12 ∧ beside.size ≤ 1500 ∧ text.size ≤ 1500)), ()), ())) (EvP.to (sealOk_ok key nonce beside) (EvP.nite (fun h => EvP.some ?_) (fun h => EvP.some ?_))) (EvP.nite (fun h => EvP.some ?_) (fun h => ?_)))
  · rw [decide_eq_false (by omega)]; rfl
  · by_cases h2 : text.size ≤ 1500
    · rw [decide_eq_true (show key.size = 16 ∧ nonce.size = 12 ∧ beside.size ≤ 1500 ∧ text.size ≤ 1500 by omega), decide_eq_false (by omega)]; rfl
    · rw [decide_eq_false (show ¬(key.size = 16 ∧ nonce.size = 12 ∧ beside.size ≤ 1500 ∧ text.size ≤ 1500) by omega), decide_eq_true (by omega)]; rfl
  · rw [sealR, if_neg h]
  · refine EvP.andK (cipherOf_ok h.1) ?_
    rintro r ⟨hb, hr⟩
    rw [hr]
    refine EvP.to (turned_ok h.1 hb h.2.1 (by omega)) (EvP.to (tag_ok hb h.2.1 (by omega) (by (try dsimp only); rw [ctr_size]; omega)) (EvP.chk1 (by (try dsimp only); rw [ctr_size, tagF_size]; omega) (EvP.some ?_)))
    rw [sealR, if_pos h]
    rfl
end Go.Proofs.YtkfpfcpmaejeoaaGreat.CFnRetried
