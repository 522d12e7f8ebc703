/- Two texts over one another; noughts. -/
import Derived.Test.YtkfpfcpmaejeoaaGreatQAes
import Derived.Test.YtkfpfcpmaejeoaaGreatQStr
set_option linter.unusedVariables false
set_option linter.unusedSimpArgs false
namespace Go.Proofs.YtkfpfcpmaejeoaaGreat.Q
open Go Go.Proofs Go.Proofs.YtkfpfcpmaejeoaaGreatPM

theorem byteAt_L {f : Nat → Nat} (hf : By f) {n : Nat} : ∀ i, i < n → byteAt (strL (L n f)) i = f i := by
  intro i hi
  unfold byteAt
  rw [bytesL_strL (Bytes_L fun i _ => hf i), L_at hi, Int.toNat_natCast]
def zs (n : Nat) : ByteArray := strL (List.replicate n 0)
theorem zs_size (n : Nat) : (zs n).size = n := by rw [zs, strL_size, List.length_replicate]
theorem zs_succ (n : Nat) : zs (n + 1) = ⟨#[0]⟩ ++ zs n := by rw [zs, List.replicate_succ, show (0 : Int) :: List.replicate n 0 = [0] ++ List.replicate n 0 from rfl, strL_append]; rfl
theorem repL_zs : ∀ k, repL (⟨#[0]⟩ : ByteArray) k = zs k
  | 0 => rfl
  | k + 1 => by
    rw [zs_succ, ← repL_zs k]
    apply ByteArray.ext
    simp [repL, Lib.repeatL]
/-- Two texts over one another. -/
def xs (a b : ByteArray) : ByteArray := strL (L a.size fun i => byteAt a i ^^^ byteAt b i)
theorem xs_size (a b : ByteArray) : (xs a b).size = a.size := by rw [xs, strL_size, L_len]
theorem byteAt_xs {a b : ByteArray} {i : Nat} (h : i < a.size) : byteAt (xs a b) i = byteAt a i ^^^ byteAt b i :=
  byteAt_L (f := fun i => byteAt a i ^^^ byteAt b i) (fun j => xor_lt (byteAt_lt _ _) (byteAt_lt _ _)) i h
theorem xor_cancel_right {a b c : Nat} (h : a ^^^ c = b ^^^ c) : a = b := by
  have := congrArg (fun x => x ^^^ c) h
  simpa [Nat.xor_assoc] using this
theorem xor_cancel_left {a b c : Nat} (h : c ^^^ a = c ^^^ b) : a = b := by rw [Nat.xor_comm c a, Nat.xor_comm c b] at h; exact xor_cancel_right h
theorem xs_left {a a2 b : ByteArray} (hs : a.size = a2.size) (h : xs a b = xs a2 b) : a = a2 := str_ext hs fun i hi => by
  have := congrArg (fun z => byteAt z i) h
  rw [byteAt_xs hi, byteAt_xs (by omega)] at this
  exact xor_cancel_right this
theorem xs_right {a b b2 : ByteArray} (h1 : b.size = a.size) (h2 : b2.size = a.size) (h : xs a b = xs a b2) : b = b2 := str_ext (by omega) fun i hi => by
  have := congrArg (fun z => byteAt z i) h
  rw [byteAt_xs (by omega), byteAt_xs (by omega)] at this
  exact xor_cancel_left this
/-- The first bytes are counted. -/
def cx (t s : Nat → Nat) (k j : Nat) : Nat := if j < k then t j ^^^ s j else t j
theorem cx_zero (t s : Nat → Nat) : cx t s 0 = t := by funext j; simp [cx]
theorem cx_all {t s : Nat → Nat} {n k : Nat} (h : n ≤ k) : L n (cx t s k) = L n fun j => t j ^^^ s j := L_eq fun j hj => by unfold cx; rw [if_pos (by omega)]
theorem cx_by {t s : Nat → Nat} (ht : By t) (hs : By s) (k : Nat) : By (cx t s k) := fun j => by
  unfold cx
  split
  · exact xor_lt (ht j) (hs j)
  · exact ht j
theorem cx_succ (t s : Nat → Nat) (k : Nat) : (fun j => if j = k then cx t s k k ^^^ s k else cx t s k j) = cx t s (k + 1) := by
  funext j
  unfold cx
  by_cases h1 : j = k
  · subst h1; simp
  · by_cases h2 : j < k
    · rw [if_neg h1, if_pos h2, if_pos (by omega)]
    · rw [if_neg h1, if_neg h2, if_neg (by omega)]
theorem L_cong_min {t s : Nat → Nat} {n a : Nat} : L n (cx t s (min a n)) = L n (cx t s a) := L_eq fun j hj => by
  unfold cx
  by_cases h : j < a
  · rw [if_pos (by omega), if_pos h]
  · rw [if_neg (by omega), if_neg h]

end Go.Proofs.YtkfpfcpmaejeoaaGreat.Q
