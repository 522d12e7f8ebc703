/- Texts counted: each byte with one of the blocks that follow a start. -/
import Derived.Test.YtkfpfcpmaejeoaaGreatQAesKWFnRetried
import Derived.Test.YtkfpfcpmaejeoaaGreatQXs
import Derived.Test.YtkfpfcpmaejeoaaGreatQBeImplFnRetried
import Derived.Test.YtkfpfcpmaejeoaaGreatQNumImplFnRetried
set_option linter.unusedVariables false
set_option linter.unusedSimpArgs false
namespace Go.Proofs.YtkfpfcpmaejeoaaGreat.CFnRetried
open Go Go.Proofs Go.Proofs.YtkfpfcpmaejeoaaGreatPM Go.Proofs.YtkfpfcpmaejeoaaGreat.Q Go.Proofs.YtkfpfcpmaejeoaaGreat.GFnRetried

/-- The block of a place. -/
def ctrBlock (key head : ByteArray) (n : Nat) (q : Nat) : ByteArray := aes key (head ++ be 4 (((n + q) % 4294967296 : Nat) : Int))
def ctrByte (key head : ByteArray) (n : Nat) (j : Nat) : Nat := byteAt (ctrBlock key head n (j / 16)) (j % 16)
/-- A text counted. -/
def ctr (key head : ByteArray) (n : Nat) (text : ByteArray) : ByteArray := strL (L text.size fun j => byteAt text j ^^^ ctrByte key head n j)
theorem ctr_size (key head : ByteArray) (n : Nat) (text : ByteArray) : (ctr key head n text).size = text.size := by rw [ctr, strL_size, L_len]
theorem ctrByte_lt (key head : ByteArray) (n j : Nat) : ctrByte key head n j < 256 := byteAt_lt _ _
theorem byteAt_ctr {key head : ByteArray} {n : Nat} {text : ByteArray} {i : Nat} (h : i < text.size) : byteAt (ctr key head n text) i = byteAt text i ^^^ ctrByte key head n i :=
  byteAt_strL (f := fun j => byteAt text j ^^^ ctrByte key head n j) (fun j => xor_lt (byteAt_lt _ _) (ctrByte_lt _ _ _ _)) i h
theorem ctr_twice (key head : ByteArray) (n : Nat) (text : ByteArray) : ctr key head n (ctr key head n text) = text := by
  refine str_ext (by rw [ctr_size, ctr_size]) fun i hi => ?_
  rw [ctr_size, ctr_size] at hi
  rw [byteAt_ctr (by rw [ctr_size]; exact hi), byteAt_ctr hi, Nat.xor_assoc, Nat.xor_self, Nat.xor_zero]
theorem ctr_begin (key head : ByteArray) (n : Nat) (text : ByteArray) {m : Nat} (h : m ≤ text.size) : ctr key head n (text.extract 0 m) = (ctr key head n text).extract 0 m := by
  have e1 : (text.extract 0 m).size = m := by rw [extract_size h]; omega
  have e2 : ((ctr key head n text).extract 0 m).size = m := by rw [extract_size (by rw [ctr_size]; exact h)]; omega
  refine str_ext (by rw [ctr_size, e1, e2]) fun i hi => ?_
  rw [ctr_size, e1] at hi
  rw [byteAt_ctr (by omega), byteAt_extract (by omega), byteAt_extract (by omega), byteAt_ctr (by omega)]
  congr 2 <;> omega
section
variable {key : ByteArray} {p1 p2 : List Int}
theorem ctr_in {t : Nat → Nat} {n q : Nat} (hn : n ≤ 1000000) (hq : q ≤ 100000) (head : ByteArray) (nn : Int) (block : ByteArray) (hb : block.size = 16) (s : Nat → Nat) (ht : By t) (hss : By s)
    (hs : ∀ j, j / 16 = q → s j = byteAt block (j % 16)) (hlt : 16 * q < n) :
    EvP (fun N => impl_cipher_counter.l1 N head nn ((16 * q : Nat) : Int) block ((16 * q : Nat) : Int) p1 p2 (L n (cx t s (16 * q)))) (· = (((), ((), ())), (((), ((), ())), (p1, (p2, (L n (cx t s (16 * (q + 1))), ())))))) := by
  have hmm : mmI false (IntKind.i64.wrap (((16 * q : Nat) : Int) + 16)) ((n : Nat) : Int) = ((min (16 * (q + 1)) n : Nat) : Int) := by
    rw [i64w (by omega) (by omega)]
    unfold mmI
    simp only
    split <;> omega
  rw [← L_cong_min (a := 16 * (q + 1))]
  refine EvP.count (f := fun N k (p : List Int) => impl_cipher_counter.l1 N head nn ((16 * q : Nat) : Int) block k p1 p2 p) (n := min (16 * (q + 1)) n) (inv := fun k p => 16 * q ≤ k ∧ p = L n (cx t s k)) ?_ ?_ (16 * q) _ (by omega) ⟨Nat.le_refl _, rfl⟩
  · rintro k p hk ⟨h1, rfl⟩ next
    refine EvP.step (fun N => impl_cipher_counter.l1.eq N _ _ _ _ _ _ _ _) ?_
    rw [L_len, hmm]
    have e1 : IntKind.i64.wrap ((k : Int) - ((16 * q : Nat) : Int)) = ((k - 16 * q : Nat) : Int) := by rw [i64w (by omega) (by omega)]; omega
    have e2 : IntKind.i64.wrap ((k : Int) + 1) = ((k + 1 : Nat) : Int) := by rw [i64w (by omega) (by omega)]; omega
    rw [e1, e2, hb]
    simp only [Int.toNat_natCast]
    refine EvP.pos (by omega) (EvP.chk2 (by omega) (by omega) (EvP.chk2 (by omega) (by omega) (EvP.chk2 (by omega) (by omega) ?_)))
    rw [L_at (by omega : k < n), byteAt_bytesL, xor_u8 (cx_by ht hss k k) (byteAt_lt _ _), L_set]
    refine next _ ⟨by omega, ?_⟩
    rw [← cx_succ, hs k (by omega), show k % 16 = k - 16 * q by omega]
  · rintro p ⟨_, rfl⟩
    refine EvP.step (fun N => impl_cipher_counter.l1.eq N _ _ _ _ _ _ _ _) ?_
    rw [L_len, hmm]
    exact EvP.neg (by omega) (EvP.some rfl)
theorem counter_ok (hk : key.size = 16) (hb : BoxOK p1) {start text : ByteArray} (hst : start.size = 16) (ht : text.size ≤ 1000000) :
    EvP (fun N => impl_cipher_counter N start text p1 (L 176 (KW key))) (· = ((ctr key (start.extract 0 12) (vof (start.extract 12 16)).toNat text, ()), (((), ((), ())), (p1, (L 176 (KW key), ()))))) := by
  have h4 : (start.extract 12 16).size = 4 := by rw [extract_size (by omega)]
  have h12 : (start.extract 0 12).size = 12 := by rw [extract_size (by omega)]
  refine EvP.of (fun N => impl_cipher_counter.eq N _ _ _ _) (EvP.chk1 (by omega) (EvP.chk2 (by omega) (by omega) ?_))
  rw [hst, show Int.toNat ((16 : Nat) : Int) = 16 from rfl]
  refine EvP.to (number_ok _ (by omega)) ?_
  dsimp only
  have hv := vof_range (start.extract 12 16)
  rw [h4] at hv
  generalize hn0 : vof (start.extract 12 16) = v at hv ⊢
  obtain ⟨n, rfl⟩ := Int.eq_ofNat_of_zero_le hv.1
  generalize hhd : start.extract 0 12 = head at h12 ⊢
  rw [u32i hv.1 hv.2, Int.toNat_natCast]
  have hn : n < 4294967296 := by have := hv.2; simp only [Int.reducePow] at this; omega
  refine EvP.to (a := (((), ()), (((), ((), ())), (p1, (L 176 (KW key), (L text.size (fun j => byteAt text j ^^^ ctrByte key head n j), ())))))) ?_ (EvP.some rfl)
  rw [bytesL_L]
  have hT : By (byteAt text) := byteAt_lt text
  have hS : By (ctrByte key head n) := ctrByte_lt key head n
  have inner : ∀ (d q : Nat), (text.size + 15) / 16 ≤ q + d → q ≤ (text.size + 15) / 16 → EvP (fun N => impl_cipher_counter.l0 N head (((n + q) % 4294967296 : Nat) : Int) ((16 * q : Nat) : Int) p1 (L 176 (KW key)) (L text.size (cx (byteAt text) (ctrByte key head n) (16 * q)))) (· = (((), ()), (((), ((), ())), (p1, (L 176 (KW key), (L text.size (fun j => byteAt text j ^^^ ctrByte key head n j), ())))))) := by
    intro d
    induction d with
    | zero =>
      intro q h1 h2
      refine EvP.step (fun N => impl_cipher_counter.l0.eq N _ _ _ _ _ _) (EvP.neg (by rw [L_len]; omega) (EvP.some ?_))
      rw [cx_all (by omega)]
    | succ d ih =>
      intro q h1 h2
      refine EvP.step (fun N => impl_cipher_counter.l0.eq N _ _ _ _ _ _) ?_
      rw [L_len]
      by_cases hlt : 16 * q < text.size
      · refine EvP.pos (by omega) ?_
        rw [u64i (by omega) (by omega)]
        refine EvP.to (bigEndian_ok _ 4 (by omega) (by decide)) (EvP.chk1 (by rw [be_size]; omega) ?_)
        refine EvP.to (encrypt_ok (KW_by key) hb (by rw [ByteArray.size_append, be_size]; omega)) ?_
        have hblk : strL (L 16 (encN sb (KW key) 10 (byteAt (head ++ be 4 (((n + q) % 4294967296 : Nat) : Int))))) = ctrBlock key head n q := rfl
        rw [hblk]
        refine EvP.to (ctr_in ht (by omega) head _ (ctrBlock key head n q) (size16 _) (ctrByte key head n) hT hS (fun j hj => by unfold ctrByte; rw [hj]) hlt) ?_
        have e1 : IntKind.u32.wrap ((((n + q) % 4294967296 : Nat) : Int) + 1) = (((n + (q + 1)) % 4294967296 : Nat) : Int) := by rw [u32w]; omega
        have e2 : IntKind.i64.wrap (((16 * q : Nat) : Int) + 16) = ((16 * (q + 1) : Nat) : Int) := by rw [i64w (by omega) (by omega)]; omega
        dsimp only
        rw [e1, e2]
        exact ih (q + 1) (by omega) (by omega)
      · refine EvP.neg (by omega) (EvP.some ?_)
        rw [cx_all (by omega)]
  have := inner ((text.size + 15) / 16) 0 (by omega) (by omega)
  rw [show 16 * 0 = 0 from rfl, cx_zero, show ((n + 0) % 4294967296 : Nat) = n by omega] at this
  exact this
end
end Go.Proofs.YtkfpfcpmaejeoaaGreat.CFnRetried
