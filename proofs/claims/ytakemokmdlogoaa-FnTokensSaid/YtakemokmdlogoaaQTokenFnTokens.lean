/- A token that is minted. -/
import Derived.Test.YtakemokmdlogoaaQOpenFnTokens
import Derived.Test.YtakemokmdlogoaaQGcmSpecFnTokens
import Derived.Test.YtakemokmdlogoaaQInFnTokens
set_option linter.unusedVariables false
set_option linter.unusedSimpArgs false
namespace Go.Proofs.Ytakemokmdlogoaa.CFnTokens
open Go Go.Proofs Go.Proofs.YtakemokmdlogoaaPM Go.Proofs.Ytakemokmdlogoaa.Q Go.Proofs.Ytakemokmdlogoaa.G128 Go.Proofs.Ytakemokmdlogoaa.GFnTokens

abbrev Mt := ByteArray × (Int × (Bool × Unit))
def fbB (b : Bool) : ByteArray := if b = true then ⟨#[1]⟩ else ⟨#[0]⟩
theorem fbB_size (b : Bool) : (fbB b).size = 1 := by cases b <;> rfl
def MintOk (key nonce address : ByteArray) (m0 : ByteArray) (m1 : Int) : Prop := key.size = 16 ∧ nonce.size = 12 ∧ (1 ≤ address.size ∧ address.size ≤ 18) ∧ m0.size ≤ 20 ∧ (0 ≤ m1 ∧ m1 ≤ 1000000000)
instance (key nonce address m0 : ByteArray) (m1 : Int) : Decidable (MintOk key nonce address m0 m1) := by unfold MintOk; infer_instance
def mintS (key nonce address m0 : ByteArray) (m1 : Int) (m2 : Bool) : ByteArray := sealF key nonce (fbB m2 ++ address) (be 8 m1 ++ m0)
def mintF (key nonce address m0 : ByteArray) (m1 : Int) (m2 : Bool) : ByteArray := (fbB m2 ++ nonce) ++ mintS key nonce address m0 m1 m2
theorem mintS_size (key nonce address m0 : ByteArray) (m1 : Int) (m2 : Bool) : (mintS key nonce address m0 m1 m2).size = 24 + m0.size := by
  rw [mintS, sealF_size, ByteArray.size_append, be_size]; omega
def mintR (key nonce address m0 : ByteArray) (m1 : Int) (m2 : Bool) : (ByteArray × (Bool × Unit)) × Unit :=
  if MintOk key nonce address m0 m1 then ((mintF key nonce address m0 m1 m2, (true, ())), ()) else (((⟨#[]⟩ : ByteArray), (false, ())), ())
theorem isAddress_ok (s : ByteArray) : EvP (fun N => impl_isAddress N s) (· = ((decide (1 ≤ s.size ∧ s.size ≤ 18), ()), ())) :=
  EvP.of (fun N => impl_isAddress.eq N _) (EvP.to (in_impl _ 1 18) (EvP.some (by dsimp only; rw [dec_eq (q := 1 ≤ s.size ∧ s.size ≤ 18) (fun h => by omega) (fun h => by omega)])))
theorem isTime_ok (n : Int) : EvP (fun N => impl_isTime N n) (· = ((decide (0 ≤ n ∧ n ≤ 1000000000), ()), ())) :=
  EvP.of (fun N => impl_isTime.eq N _) (EvP.to (in_impl _ 0 1000000000) (EvP.some rfl))
theorem goodMinted_ok (m0 : ByteArray) (m1 : Int) (m2 : Bool) : EvP (fun N => impl_goodMinted N m0 m1 m2) (· = ((decide (m0.size ≤ 20 ∧ (0 ≤ m1 ∧ m1 ≤ 1000000000)), ()), ())) :=
  EvP.of (fun N => impl_goodMinted.eq N _ _ _) (EvP.ite (fun h => EvP.to (isTime_ok m1) (EvP.some (by dsimp only; rw [dec_eq (q := m0.size ≤ 20 ∧ (0 ≤ m1 ∧ m1 ≤ 1000000000)) (fun h => by omega) (fun h => by omega)])))
    (fun h => EvP.some (by rw [decide_eq_false (by omega)])))
theorem isKey_ok (s : ByteArray) : EvP (fun N => impl_isKey N s) (· = ((decide ((s.size : Int) = 16), ()), ())) := EvP.of (fun N => impl_isKey.eq N _) (EvP.some rfl)
theorem Mint_impl (key nonce address m0 : ByteArray) (m1 : Int) (m2 : Bool) : EvP (fun N => impl_MintToken N key nonce address m0 m1 m2) (· = mintR key nonce address m0 m1 m2) := by
  refine EvP.of (fun N => impl_MintToken.eq N _ _ _ _ _ _) (EvP.to (a := (((), ((!(decide (MintOk key nonce address m0 m1))), ())), ((m0, (m1, (m2, ()))), ()))) ?_ (EvP.nite (fun h => EvP.some ?_) (fun h => ?_)))
  · refine EvP.to (isKey_ok key) (EvP.nite (fun h => EvP.some ?_) (fun h => EvP.nite (fun h2 => EvP.some ?_) (fun h2 => EvP.to (isAddress_ok address) (EvP.nite (fun h3 => EvP.some ?_) (fun h3 => EvP.to (goodMinted_ok m0 m1 m2) (EvP.some ?_))))))
    · rw [decide_eq_false (by unfold MintOk; omega)]; rfl
    · rw [decide_eq_false (by unfold MintOk; omega)]; rfl
    · rw [decide_eq_false (by unfold MintOk; omega)]; rfl
    · dsimp only
      rw [dec_eq (q := MintOk key nonce address m0 m1) (fun h4 => by unfold MintOk; omega) (fun h4 => by unfold MintOk at h4; omega)]
  · rw [mintR, if_neg h]
  · have h3 := h
    unfold MintOk at h3
    have hf := fbB_size m2
    have hs := mintS_size key nonce address m0 m1 m2
    refine EvP.to (a := (((), (fbB m2, ())), ((m0, (m1, (m2, ()))), ()))) ?_ ?_
    · cases m2 with
      | true => exact EvP.yes rfl (EvP.some rfl)
      | false => exact EvP.no rfl (EvP.some rfl)
    · dsimp only
      rw [u64i (n := m1) (by omega) (by omega)]
      refine EvP.chk1 (by omega) (EvP.to (bigEndian_ok _ 8 (by omega) (by decide)) (EvP.chk1 (by (try dsimp only); rw [be_size]; omega) (EvP.to (Seal_impl _ _ _ _) ?_)))
      rw [show sealR key nonce (fbB m2 ++ address) (be 8 m1 ++ m0) = _ from if_pos ⟨h3.1, h3.2.1, by rw [ByteArray.size_append]; omega, by rw [ByteArray.size_append, be_size]; omega⟩]
      refine EvP.chk1 (by omega) (EvP.chk1 ?_ (EvP.some ?_))
      · show (fbB m2 ++ nonce).size + (mintS key nonce address m0 m1 m2).size ≤ _
        rw [ByteArray.size_append]; omega
      · rw [mintR, if_pos h]; rfl
theorem l10Address_ok (s : ByteArray) : EvP (fun N => spec_l10Address N s) (· = ((decide (1 ≤ s.size ∧ s.size ≤ 18), ()), ())) :=
  EvP.of (fun N => spec_l10Address.eq N _) (EvP.to (in_spec _ 1 18) (EvP.some (by dsimp only; rw [dec_eq (q := 1 ≤ s.size ∧ s.size ≤ 18) (fun h => by omega) (fun h => by omega)])))
theorem l10Minted_ok (m0 : ByteArray) (m1 : Int) (m2 : Bool) : EvP (fun N => spec_l10Minted N m0 m1 m2) (· = ((decide (m0.size ≤ 20 ∧ (0 ≤ m1 ∧ m1 ≤ 1000000000)), ()), ())) :=
  EvP.of (fun N => spec_l10Minted.eq N _ _ _) (EvP.ite (fun h => EvP.to (in_spec m1 0 1000000000) (EvP.some (by dsimp only; rw [dec_eq (q := m0.size ≤ 20 ∧ (0 ≤ m1 ∧ m1 ≤ 1000000000)) (fun h => by omega) (fun h => by omega)])))
    (fun h => EvP.some (by rw [decide_eq_false (by omega)])))
theorem Mint_spec (key nonce address m0 : ByteArray) (m1 : Int) (m2 : Bool) : EvP (fun N => spec_MintToken N key nonce address m0 m1 m2) (· = mintR key nonce address m0 m1 m2) := by
  refine EvP.of (fun N => spec_MintToken.eq N _ _ _ _ _ _) (EvP.to (a := (((), ((!(decide (MintOk key nonce address m0 m1))), ())), ((m0, (m1, (m2, ()))), ()))) ?_ (EvP.nite (fun h => EvP.some ?_) (fun h => ?_)))
  · refine EvP.nite (fun h => EvP.some ?_) (fun h => EvP.nite (fun h2 => EvP.some ?_) (fun h2 => EvP.to (l10Address_ok address) (EvP.nite (fun h3 => EvP.some ?_) (fun h3 => EvP.to (l10Minted_ok m0 m1 m2) (EvP.some ?_)))))
    · rw [decide_eq_false (by unfold MintOk; omega)]; rfl
    · rw [decide_eq_false (by unfold MintOk; omega)]; rfl
    · rw [decide_eq_false (by unfold MintOk; omega)]; rfl
    · dsimp only
      rw [dec_eq (q := MintOk key nonce address m0 m1) (fun h4 => by unfold MintOk; omega) (fun h4 => by unfold MintOk at h4; omega)]
  · rw [mintR, if_neg h]
  · have h3 := h
    unfold MintOk at h3
    have hf := fbB_size m2
    have hs := mintS_size key nonce address m0 m1 m2
    refine EvP.to (a := ((mintF key nonce address m0 m1 m2, ()), ())) (EvP.of (fun N => spec_l10Mint.eq N _ _ _ _ _ _) ?_) (EvP.some (by rw [mintR, if_pos h]))
    refine EvP.to (a := (((), (fbB m2, ())), ((m0, (m1, (m2, ()))), ()))) ?_ ?_
    · cases m2 with
      | true => exact EvP.yes rfl (EvP.some rfl)
      | false => exact EvP.no rfl (EvP.some rfl)
    · dsimp only
      refine EvP.chk1 (by omega) (EvP.to (key_spec h3.1) (EvP.chk1 (by omega) (EvP.to (fixed_ok _ 8 (by decide)) (EvP.chk1 (by (try dsimp only); rw [be_size]; omega) ?_))))
      refine EvP.to (seal_spec h3.2.1 (by (try dsimp only); rw [ByteArray.size_append]; omega) (by (try dsimp only); rw [ByteArray.size_append, be_size]; omega)) (EvP.chk1 ?_ (EvP.some rfl))
      show (fbB m2 ++ nonce).size + (mintS key nonce address m0 m1 m2).size ≤ _
      rw [ByteArray.size_append]; omega
/-! ### a token is looked at -/
def opn (k address token : ByteArray) : (ByteArray × (Bool × Unit)) × Unit := openR k (token.extract 1 13) (token.extract 0 1 ++ address) (token.extract 13 token.size)
def Late (now life v : Int) : Prop := now < v ∨ life < now - v
instance (now life v : Int) : Decidable (Late now life v) := by unfold Late; infer_instance
theorem keys_l0 {keys : List ByteArray} (hk : ∀ k ∈ keys, k.size = 16) (hl : keys.length ≤ 1000) : ∀ (d i : Nat), i + d = keys.length → EvP (fun N => slices_IndexFuncstring_string.l0 N keys (keys.length : Int) (i : Int)) (· = .inr ((), ())) := by
  intro d
  induction d with
  | zero =>
    intro i hi
    exact EvP.step (fun N => slices_IndexFuncstring_string.l0.eq N _ _ _) (EvP.neg (by omega) (EvP.some rfl))
  | succ d ih =>
    intro i hi
    refine EvP.step (fun N => slices_IndexFuncstring_string.l0.eq N _ _ _) (EvP.pos (by omega) (EvP.chk2 (by omega) (by omega) ?_))
    rw [Int.toNat_natCast, show IntKind.i64.wrap ((i : Int) + 1) = ((i + 1 : Nat) : Int) by rw [i64w (by omega) (by omega)]; omega]
    have hg : (keys.getD i (⟨#[]⟩ : ByteArray)).size = 16 := by
      rw [List.getD_eq_getElem?_getD, List.getElem?_eq_getElem (by omega)]
      exact hk _ (List.getElem_mem _)
    refine EvP.to (a := ((false, ()), ())) (EvP.of (fun N => impl_tokenKeysOk_1.eq N _) (EvP.to (isKey_ok _) (EvP.some ?_))) (EvP.no rfl (ih (i + 1) (by omega)))
    rw [decide_eq_true (show ((keys.getD i (⟨#[]⟩ : ByteArray)).size : Int) = 16 by omega)]
    rfl
theorem keysOk {keys : List ByteArray} (hk : ∀ k ∈ keys, k.size = 16) (h1 : 1 ≤ keys.length) (h2 : keys.length ≤ 2) : EvP (fun N => impl_tokenKeysOk N keys) (· = ((true, ()), ())) := by
  refine EvP.of (fun N => impl_tokenKeysOk.eq N _) (EvP.to (in_impl _ 1 2) (EvP.pos (by omega) ?_))
  refine EvP.to (a := ((false, ()), ())) (EvP.of (fun N => slices_ContainsFuncstring_string.eq N _) ?_) (EvP.some rfl)
  refine EvP.to (a := (((-1), ()), ())) (EvP.of (fun N => slices_IndexFuncstring_string.eq N _) ?_) (EvP.some rfl)
  exact EvP.to (keys_l0 hk (by omega) _ 0 (Nat.zero_add _)) (EvP.inr (EvP.some rfl))
section
variable {address token : ByteArray} {now life : Int} {keys : List ByteArray} {p0 : ByteArray} {p1 : Int} {p2 : Bool}
theorem loop_end : EvP (fun N => impl_CheckToken.l0 N address token now life keys (keys.length : Int) (keys.length : Int) p0 p1 p2) (· = .inr (((), ()), ((p0, (p1, (p2, ()))), ()))) :=
  EvP.step (fun N => impl_CheckToken.l0.eq N _ _ _ _ _ _ _ _ _ _) (EvP.neg (by omega) (EvP.some rfl))
theorem loop_open (ht : 37 ≤ token.size) (ht2 : token.size ≤ 57) (ha : address.size ≤ 18) {i : Nat} (hi : i < keys.length) (hl : keys.length ≤ 1000) {P : _ → Prop}
    (h0 : (opn (keys.getD i ⟨#[]⟩) address token).1.2.1 = false → EvP (fun N => impl_CheckToken.l0 N address token now life keys (keys.length : Int) ((i + 1 : Nat) : Int) p0 p1 p2) P)
    (h1 : ∀ t, opn (keys.getD i ⟨#[]⟩) address token = ((t, (true, ())), ()) → 8 ≤ t.size ∧ ((IntKind.u64.wrap now < vof (t.extract 0 8) ∨ life < IntKind.i64.wrap (now - IntKind.i64.wrap (vof (t.extract 0 8)))) → P (.inl (((), (4, ())), (((⟨#[]⟩ : ByteArray), (0, (false, ()))), ())))) ∧
      (¬(IntKind.u64.wrap now < vof (t.extract 0 8) ∨ life < IntKind.i64.wrap (now - IntKind.i64.wrap (vof (t.extract 0 8)))) → P (.inl (((), (0, ())), ((t.extract 8 t.size, (IntKind.i64.wrap (vof (t.extract 0 8)), (decide ((bytesL token).getD 0 0 = 1), ()))), ()))))) :
    EvP (fun N => impl_CheckToken.l0 N address token now life keys (keys.length : Int) (i : Int) p0 p1 p2) P := by
  have e0 : (token.extract 0 1).size = 1 := by rw [extract_size (by omega)]
  have e3 : (token.extract 13 token.size).size ≤ 44 := by rw [extract_size (by omega)]; omega
  refine EvP.step (fun N => impl_CheckToken.l0.eq N _ _ _ _ _ _ _ _ _ _) (EvP.pos (by omega) (EvP.chk2 (by omega) (by omega) (EvP.chk1 (by omega) (EvP.chk1 (by omega) (EvP.chk1 (by omega) (EvP.chk2 (by omega) (by omega) ?_))))))
  rw [Int.toNat_natCast, Int.toNat_natCast, show IntKind.i64.wrap ((i : Int) + 1) = ((i + 1 : Nat) : Int) by rw [i64w (by omega) (by omega)]; omega]
  refine EvP.to (Open_impl _ _ _ _ (by omega)) ?_
  rw [show openR (keys.getD i ⟨#[]⟩) (token.extract 1 13) (token.extract 0 1 ++ address) (token.extract 13 token.size) = opn (keys.getD i ⟨#[]⟩) address token from rfl]
  cases hf : (opn (keys.getD i ⟨#[]⟩) address token).1.2.1 with
  | false => exact EvP.yes rfl (h0 hf)
  | true =>
    obtain ⟨t, ht⟩ : ∃ t, opn (keys.getD i ⟨#[]⟩) address token = ((t, (true, ())), ()) := by
      generalize opn (keys.getD i ⟨#[]⟩) address token = z at hf
      obtain ⟨⟨t, b, ⟨⟩⟩, ⟨⟩⟩ := z
      dsimp only at hf
      subst hf
      exact ⟨t, rfl⟩
    obtain ⟨k1, k2, k3⟩ := h1 t ht
    rw [ht]
    have e8 : (t.extract 0 8).size = 8 := by rw [extract_size (by omega)]
    refine EvP.no rfl (EvP.chk1 (by (try dsimp only); omega) (EvP.to (number_ok _ (by (try dsimp only); omega)) ?_))
    dsimp only
    refine EvP.to (a := (((), (decide (IntKind.u64.wrap now < vof (t.extract 0 8) ∨ life < IntKind.i64.wrap (now - IntKind.i64.wrap (vof (t.extract 0 8)))), ())), ((p0, (p1, (p2, ()))), ()))) ?_ (EvP.ite (fun h => EvP.some (k2 h)) (fun h => EvP.chk2 (by omega) (by omega) (EvP.chk1 (by omega) (EvP.some ?_))))
    · exact EvP.ite (fun h => EvP.some (by rw [decide_eq_true (Or.inl h)])) (fun h => EvP.some (by rw [dec_eq (q := IntKind.u64.wrap now < vof (t.extract 0 8) ∨ life < IntKind.i64.wrap (now - IntKind.i64.wrap (vof (t.extract 0 8)))) (fun h2 => Or.inr h2) (fun h2 => h2.resolve_left h)]))
    · rw [Int.toNat_natCast]
      exact k3 h
theorem check_impl (ht : 37 ≤ token.size) (ht2 : token.size ≤ 57) (ha : 1 ≤ address.size ∧ address.size ≤ 18) (hn : 0 ≤ now ∧ now ≤ 1000000000) (hlf : 0 ≤ life ∧ life ≤ 1000000) (hb : (bytesL token).getD 0 0 ≤ 1)
    (hk : ∀ k ∈ keys, k.size = 16) (h1 : 1 ≤ keys.length) (h2 : keys.length ≤ 2) {P : _ → Prop}
    (h : EvP (fun N => impl_CheckToken.l0 N address token now life keys (keys.length : Int) ((0 : Nat) : Int) (⟨#[]⟩ : ByteArray) 0 false) (fun r => (∀ x, r = .inl x → P (((x.2.1.1, (x.2.1.2.1, (x.2.1.2.2.1, ()))), (x.1.2.1, ())), ())) ∧ ∀ x, r = .inr x → P ((((⟨#[]⟩ : ByteArray), (0, (false, ()))), (3, ())), ()))) :
    EvP (fun N => impl_CheckToken N keys address token now life) P := by
  refine EvP.of (fun N => impl_CheckToken.eq N _ _ _ _ _) (EvP.to (a := (((), (false, ())), (((⟨#[]⟩ : ByteArray), (0, (false, ()))), ()))) ?_ (EvP.no rfl (EvP.to (a := (((), (false, ())), (((⟨#[]⟩ : ByteArray), (0, (false, ()))), ()))) ?_ (EvP.no rfl (EvP.andK h ?_)))))
  · refine EvP.to (keysOk hk h1 h2) (EvP.no rfl (EvP.to (isAddress_ok _) (EvP.nneg ha (EvP.to (isTime_ok _) (EvP.nneg hn (EvP.to (in_impl _ 0 1000000) (EvP.some ?_)))))))
    rw [decide_eq_true hlf]; rfl
  · refine EvP.to (in_impl _ 37 57) (EvP.nneg (by omega) (EvP.chk1 (by omega) (EvP.some ?_)))
    rw [decide_eq_false (by omega)]
  · rintro r ⟨k1, k2⟩
    exact EvP.or (fun x e => EvP.some (k1 x e)) (fun x e => EvP.some (k2 x e))
end
end Go.Proofs.Ytakemokmdlogoaa.CFnTokens
