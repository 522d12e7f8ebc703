/- What is derived of a secret: as many blocks as are needed, cut. -/
import Derived.Test.YtknoemdkfhkkhaaQHmacFnDerived
set_option linter.unusedVariables false
set_option linter.unusedSimpArgs false
namespace Go.Proofs.Ytknoemdkfhkkhaa.CFnDerived
open Go Go.Proofs Go.Proofs.YtknoemdkfhkkhaaPM Go.Proofs.Ytknoemdkfhkkhaa.Q Go.Proofs.Ytknoemdkfhkkhaa.GFnDerived

/-- What is there behind some blocks, and the last of them. -/
def expB (k info : ByteArray) : Nat → ByteArray × ByteArray
  | 0 => (⟨#[]⟩, ⟨#[]⟩)
  | i + 1 => ((expB k info i).1 ++ hmacF k (((expB k info i).2 ++ info) ++ be 1 ((i + 1 : Nat) : Int)), hmacF k (((expB k info i).2 ++ info) ++ be 1 ((i + 1 : Nat) : Int)))
theorem expB_size (k info : ByteArray) : ∀ i, (expB k info i).1.size = 32 * i ∧ (expB k info i).2.size ≤ 32
  | 0 => ⟨rfl, Nat.zero_le _⟩
  | i + 1 => by
    have := expB_size k info i
    rw [expB]
    dsimp only
    rw [ByteArray.size_append, hmacF_size]
    omega
/-- The bytes. -/
def expF (k info : ByteArray) (n : Nat) : ByteArray := (expB k info ((n + 31) / 32)).1.extract 0 n
theorem expF_size (k info : ByteArray) (n : Nat) : (expF k info n).size = n := by
  have := (expB_size k info ((n + 31) / 32)).1
  rw [expF, extract_size (by omega)]
  omega
theorem expB_more (k info : ByteArray) {m j : Nat} (h : j ≤ 32 * m) : ∀ d, (expB k info (m + d)).1.extract 0 j = (expB k info m).1.extract 0 j
  | 0 => rfl
  | d + 1 => by
    have := (expB_size k info (m + d)).1
    rw [← Nat.add_assoc, expB]
    dsimp only
    rw [extract_app_left (by omega), expB_more k info h d]
theorem extract_two {s : ByteArray} {j n : Nat} (h : j ≤ n) : (s.extract 0 n).extract 0 j = s.extract 0 j := bytesL_inj (by
  rw [bytesL_extract, bytesL_extract, bytesL_extract, List.drop_zero, List.drop_zero, List.drop_zero, List.take_take, Nat.min_eq_left h])
/-- Fewer bytes are the beginning of more. -/
theorem expF_front (k info : ByteArray) {j n : Nat} (h : j ≤ n) : expF k info j = (expF k info n).extract 0 j := by
  rw [expF, expF, extract_two h, show (n + 31) / 32 = (j + 31) / 32 + ((n + 31) / 32 - (j + 31) / 32) by omega, expB_more k info (by omega)]
theorem expand_l0 {k info : ByteArray} {n : Nat} (hk : k.size ≤ 100000) (hi : info.size ≤ 50000) (hn : n ≤ 255) : ∀ (d i : Nat), i + d = (n + 31) / 32 →
    EvP (fun N => impl_HkdfExpand.l0 N k info (n : Int) (expB k info i).1 (expB k info i).2 ((i + 1 : Nat) : Int)) (· = (((expB k info ((n + 31) / 32)).1, ()), ())) := by
  intro d
  induction d with
  | zero =>
    intro i hd
    have hs := expB_size k info i
    refine EvP.step (fun N => impl_HkdfExpand.l0.eq N _ _ _ _ _ _) (EvP.neg (by omega) (EvP.some ?_))
    rw [show i = (n + 31) / 32 by omega]
  | succ d ih =>
    intro i hd
    have hs := expB_size k info i
    refine EvP.step (fun N => impl_HkdfExpand.l0.eq N _ _ _ _ _ _) (EvP.pos (by omega) (EvP.chk1 (by omega) ?_))
    rw [u64i (n := ((i + 1 : Nat) : Int)) (by omega) (by omega), i64w (n := ((i + 1 : Nat) : Int) + 1) (by omega) (by omega)]
    refine EvP.to (bigEndian_ok _ 1 (by omega) (by decide)) (EvP.chk1 (by (try dsimp only); rw [ByteArray.size_append, be_size]; omega) ?_)
    refine EvP.to (hmac_impl k _ hk (by (try dsimp only); rw [ByteArray.size_append, ByteArray.size_append, be_size]; omega)) (EvP.chk1 (by (try dsimp only); rw [hmacF_size]; omega) ?_)
    have := ih (i + 1) (by omega)
    rw [expB, show ((i + 1 + 1 : Nat) : Int) = ((i + 1 : Nat) : Int) + 1 by omega] at this
    exact this
theorem hin_impl (n a b : Int) : EvP (fun N => impl_in N n a b) (· = ((decide (a ≤ n ∧ n ≤ b), ()), ())) :=
  EvP.of (fun N => impl_in.eq N _ _ _) (EvP.ite (fun h => EvP.some (by simp [h])) (fun h => EvP.some (by simp [h])))
def hkdfBad (k info : ByteArray) (n : Int) : Prop := 500 < (k.size : Int) ∨ 500 < (info.size : Int) ∨ ¬(0 ≤ n ∧ n ≤ 255)
instance (k info : ByteArray) (n : Int) : Decidable (hkdfBad k info n) := by unfold hkdfBad; infer_instance
def hkdfR (k info : ByteArray) (n : Int) : (ByteArray × (Bool × Unit)) × Unit := if hkdfBad k info n then (((⟨#[]⟩ : ByteArray), (false, ())), ()) else ((expF k info n.toNat, (true, ())), ())
theorem Hkdf_impl (k info : ByteArray) (n : Int) : EvP (fun N => impl_HkdfExpand N k info n) (· = hkdfR k info n) := by
  refine EvP.of (fun N => impl_HkdfExpand.eq N _ _ _) (EvP.to (a := ((decide (hkdfBad k info n), ()), ())) (EvP.to (hin_impl n 0 255) ?_) (EvP.ite (fun h => EvP.some ?_) (fun h => ?_)))
  · refine EvP.nite (fun h => EvP.some ?_) (fun h => EvP.ite (fun h2 => EvP.some ?_) (fun h2 => EvP.some ?_))
    · rw [decide_eq_true (show hkdfBad k info n from Or.inr (Or.inr h))]
    · rw [decide_eq_true (show hkdfBad k info n from Or.inl h2)]
    · rw [dec_eq (q := hkdfBad k info n) (fun h3 => Or.inr (Or.inl h3)) (fun h3 => by unfold hkdfBad at h3; omega)]
  · rw [hkdfR, if_pos h]
  · have hg : ¬(500 < (k.size : Int)) ∧ ¬(500 < (info.size : Int)) ∧ (0 ≤ n ∧ n ≤ 255) := by
      unfold hkdfBad at h
      omega
    obtain ⟨m, rfl⟩ : ∃ m : Nat, n = (m : Int) := ⟨n.toNat, by omega⟩
    have hs := (expB_size k info ((m + 31) / 32)).1
    refine EvP.to (expand_l0 (k := k) (info := info) (n := m) (by omega) (by omega) (by omega) _ 0 (Nat.zero_add _)) (EvP.chk2 (by omega) (by (try dsimp only); omega) (EvP.some ?_))
    rw [hkdfR, if_neg h, Int.toNat_natCast, expF]
theorem expand_s0 {k info : ByteArray} {n : Nat} (hk : k.size ≤ 100000) (hi : info.size ≤ 50000) (hn : n ≤ 255) : ∀ (d i : Nat), i + d = (n + 31) / 32 →
    EvP (fun N => spec_l4H_expand.l0 N k info (n : Int) (expB k info i).1 (expB k info i).2 ((i + 1 : Nat) : Int) K64 H8) (· = (((expB k info ((n + 31) / 32)).1, ()), ((K64, (H8, ())), ()))) := by
  intro d
  induction d with
  | zero =>
    intro i hd
    have hs := expB_size k info i
    refine EvP.step (fun N => spec_l4H_expand.l0.eq N _ _ _ _ _ _ _ _) (EvP.neg (by omega) (EvP.some ?_))
    rw [show i = (n + 31) / 32 by omega]
  | succ d ih =>
    intro i hd
    have hs := expB_size k info i
    refine EvP.step (fun N => spec_l4H_expand.l0.eq N _ _ _ _ _ _ _ _) (EvP.pos (by omega) (EvP.chk1 (by omega) ?_))
    rw [i64w (n := ((i + 1 : Nat) : Int) + 1) (by omega) (by omega)]
    refine EvP.to (fixed_ok _ 1 (by decide)) (EvP.chk1 (by (try dsimp only); rw [ByteArray.size_append, be_size]; omega) ?_)
    refine EvP.to (hmac_spec k _ hk (by (try dsimp only); rw [ByteArray.size_append, ByteArray.size_append, be_size]; omega)) (EvP.chk1 (by (try dsimp only); rw [hmacF_size]; omega) ?_)
    have := ih (i + 1) (by omega)
    rw [expB, show ((i + 1 + 1 : Nat) : Int) = ((i + 1 : Nat) : Int) + 1 by omega] at this
    exact this
theorem expand_spec {k info : ByteArray} {n : Nat} (hk : k.size ≤ 100000) (hi : info.size ≤ 50000) (hn : n ≤ 255) : EvP (fun N => spec_l4H_expand N k info (n : Int) K64 H8) (· = ((expF k info n, ()), ((K64, (H8, ())), ()))) := by
  have hs := (expB_size k info ((n + 31) / 32)).1
  refine EvP.of (fun N => spec_l4H_expand.eq N _ _ _ _ _) (EvP.to (expand_s0 hk hi hn _ 0 (Nat.zero_add _)) (EvP.chk2 (by omega) (by (try dsimp only); omega) (EvP.some ?_)))
  rw [Int.toNat_natCast, expF]
end Go.Proofs.Ytknoemdkfhkkhaa.CFnDerived
