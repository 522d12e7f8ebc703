/- The first secrets of an id. -/
import Derived.Test.YtknoemdkfhkkhaaQHkdfFnDerived
import Derived.Test.YtknoemdkfhkkhaaTSaltFnDerived
set_option linter.unusedVariables false
set_option linter.unusedSimpArgs false
set_option maxRecDepth 1000000
namespace Go.Proofs.Ytknoemdkfhkkhaa.CFnDerived
open Go Go.Proofs Go.Proofs.YtknoemdkfhkkhaaPM Go.Proofs.Ytknoemdkfhkkhaa.Q Go.Proofs.Ytknoemdkfhkkhaa.GFnDerived

def tls : ByteArray := ⟨#[116, 108, 115, 49, 51, 32]⟩
def salt : ByteArray := ⟨#[56, 118, 44, 247, 245, 89, 52, 179, 77, 23, 154, 230, 164, 200, 12, 173, 204, 187, 127, 10]⟩
theorem salt_T (n : Nat) : impl_ReadHex_T (n + 400) (⟨#[51, 56, 55, 54, 50, 99, 102, 55, 102, 53, 53, 57, 51, 52, 98, 51, 52, 100, 49, 55, 57, 97, 101, 54, 97, 52, 99, 56, 48, 99, 97, 100, 99, 99, 98, 98, 55, 102, 48, 97]⟩ : ByteArray) = some ((salt, (true, ())), ()) := by kernel_rfl
theorem salt_ok : EvP (fun N => impl_ReadHex N (⟨#[51, 56, 55, 54, 50, 99, 102, 55, 102, 53, 53, 57, 51, 52, 98, 51, 52, 100, 49, 55, 57, 97, 101, 54, 97, 52, 99, 56, 48, 99, 97, 100, 99, 99, 98, 98, 55, 102, 48, 97]⟩ : ByteArray)) (· = ((salt, (true, ())), ())) := ev400 fun n => by rw [impl_ReadHex_T_eq]; exact salt_T n
/-- What is written ahead of a label's derivation. -/
def labI (label : ByteArray) (n : Nat) : ByteArray := ((be 2 (n : Int) ++ be 1 ((tls ++ label).size : Int)) ++ (tls ++ label)) ++ ⟨#[0]⟩
theorem labI_size (label : ByteArray) (n : Nat) : (labI label n).size = label.size + 10 := by
  rw [labI, ByteArray.size_append, ByteArray.size_append, ByteArray.size_append, ByteArray.size_append, be_size, be_size, one_size]
  show 2 + 1 + (6 + label.size) + 1 = _
  omega
def labF (k label : ByteArray) (n : Nat) : ByteArray := expF k (labI label n) n
theorem tls_size (label : ByteArray) : (tls ++ label).size = 6 + label.size := by rw [ByteArray.size_append]; rfl
theorem counted_impl {s : ByteArray} (h : s.size ≤ 1000000) : EvP (fun N => impl_byteCounted N s) (· = ((be 1 (s.size : Int) ++ s, ()), ())) := by
  refine EvP.of (fun N => impl_byteCounted.eq N _) ?_
  rw [u64i (n := (s.size : Int)) (by omega) (by omega)]
  exact EvP.to (bigEndian_ok _ 1 (by omega) (by decide)) (EvP.chk1 (by (try dsimp only); rw [be_size]; omega) (EvP.some rfl))
theorem label_impl {k label : ByteArray} {n : Nat} (hk : k.size ≤ 500) (hl : label.size ≤ 40) (hn : n ≤ 255) : EvP (fun N => impl_ExpandLabel N k label (n : Int)) (· = ((labF k label n, (true, ())), ())) := by
  refine EvP.of (fun N => impl_ExpandLabel.eq N _ _ _) (EvP.to (a := ((false, ()), ())) (EvP.neg (by omega) (EvP.to (hin_impl _ 0 255) (EvP.some ?_))) (EvP.no rfl ?_))
  · rw [decide_eq_true (show (0 : Int) ≤ (n : Int) ∧ (n : Int) ≤ 255 by omega)]
    rfl
  · rw [u64i (n := (n : Int)) (by omega) (by omega)]
    have ht := tls_size label
    refine EvP.to (bigEndian_ok _ 2 (by omega) (by decide)) (EvP.chk1 (by omega) (EvP.to (counted_impl (s := tls ++ label) (by omega)) ?_))
    refine EvP.chk1 (by (try dsimp only); rw [ByteArray.size_append, be_size, be_size]; omega) (EvP.chk1 (by (try dsimp only); rw [ByteArray.size_append, ByteArray.size_append, be_size, be_size]; omega) ?_)
    dsimp only
    rw [← app_assoc (be 2 (n : Int))]
    refine EvP.to (Hkdf_impl k (labI label n) (n : Int)) (EvP.some ?_)
    have hs := labI_size label n
    rw [hkdfR, if_neg (by unfold hkdfBad; omega), Int.toNat_natCast]
    rfl
theorem label_spec {k label : ByteArray} {n : Nat} (hk : k.size ≤ 500) (hl : label.size ≤ 40) (hn : n ≤ 255) : EvP (fun N => spec_l4H_label N k label (n : Int) K64 H8) (· = ((labF k label n, ()), ((K64, (H8, ())), ()))) := by
  have ht := tls_size label
  refine EvP.of (fun N => spec_l4H_label.eq N _ _ _ _ _) (EvP.chk1 (by omega) (EvP.to (fixed_ok _ 2 (by decide)) (EvP.to (fixed_ok _ 1 (by decide)) ?_)))
  have hs := labI_size label n
  refine EvP.chk1 (by (try dsimp only); rw [be_size, be_size]; omega) (EvP.chk1 ?_ (EvP.chk1 ?_ ?_))
  · show (be 2 (n : Int) ++ be 1 ((tls ++ label).size : Int)).size + (tls ++ label).size ≤ _
    rw [ByteArray.size_append, be_size, be_size]; omega
  · show ((be 2 (n : Int) ++ be 1 ((tls ++ label).size : Int)) ++ (tls ++ label)).size + 1 ≤ _
    rw [ByteArray.size_append, ByteArray.size_append, be_size, be_size]; omega
  · exact EvP.to (expand_spec (k := k) (info := labI label n) (n := n) (by omega) (by omega) hn) (EvP.some rfl)
def clientIn : ByteArray := ⟨#[99, 108, 105, 101, 110, 116, 32, 105, 110]⟩
def serverIn : ByteArray := ⟨#[115, 101, 114, 118, 101, 114, 32, 105, 110]⟩
def secretsR (id : ByteArray) : (ByteArray × (ByteArray × (Bool × Unit))) × Unit :=
  if 20 < (id.size : Int) then (((⟨#[]⟩ : ByteArray), ((⟨#[]⟩ : ByteArray), (false, ()))), ()) else ((labF (hmacF salt id) clientIn 32, (labF (hmacF salt id) serverIn 32, (true, ()))), ())
theorem Secrets_impl (id : ByteArray) : EvP (fun N => impl_InitialSecrets N id) (· = secretsR id) := by
  refine EvP.of (fun N => impl_InitialSecrets.eq N _) (EvP.ite (fun h => EvP.some ?_) (fun h => EvP.to salt_ok (EvP.to (hmac_impl salt id (by decide) (by omega)) ?_)))
  · rw [secretsR, if_pos h]
  · have hs := hmacF_size salt id
    refine EvP.to (label_impl (k := hmacF salt id) (label := clientIn) (n := 32) (by omega) (by decide) (by decide)) (EvP.to (label_impl (k := hmacF salt id) (label := serverIn) (n := 32) (by omega) (by decide) (by decide)) (EvP.some ?_))
    rw [secretsR, if_neg h]
theorem Secrets_spec (id : ByteArray) : EvP (fun N => spec_InitialSecrets N id) (· = secretsR id) := by
  refine EvP.of (fun N => spec_InitialSecrets.eq N _) (EvP.ite (fun h => EvP.some ?_) (fun h => EvP.to new_spec (EvP.to (hmac_spec salt id (by decide) (by omega)) ?_)))
  · rw [secretsR, if_pos h]
  · have hs := hmacF_size salt id
    refine EvP.to (label_spec (k := hmacF salt id) (label := clientIn) (n := 32) (by omega) (by decide) (by decide)) (EvP.to (label_spec (k := hmacF salt id) (label := serverIn) (n := 32) (by omega) (by decide) (by decide)) (EvP.some ?_))
    rw [secretsR, if_neg h]
end Go.Proofs.Ytknoemdkfhkkhaa.CFnDerived
