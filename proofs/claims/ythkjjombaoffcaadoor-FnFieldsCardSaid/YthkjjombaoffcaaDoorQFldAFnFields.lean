/- Numbers with a prefix, of one or two bytes: both packages lay them alike, and the program reads them back. -/
import Derived.Test.YthkjjombaoffcaaDoorQBeImplFnFields
import Derived.Test.YthkjjombaoffcaaDoorQBeSpecFnFields
import Derived.Test.YthkjjombaoffcaaDoorQInFnFields
import Derived.Test.YthkjjombaoffcaaDoorQStr
import Derived.Test.YthkjjombaoffcaaDoorGFnFieldsx0
set_option linter.unusedVariables false
set_option linter.unusedSectionVars false
set_option linter.unusedSimpArgs false
namespace Go.Proofs.YthkjjombaoffcaaDoor.CFnFields
open Go Go.Proofs Go.Proofs.YthkjjombaoffcaaDoorPM Go.Proofs.YthkjjombaoffcaaDoor.Q Go.Proofs.YthkjjombaoffcaaDoor.GFnFields

abbrev Fd := ByteArray × ByteArray
/-- The static table. -/
def statT : List Fd := [((⟨#[58, 97, 117, 116, 104, 111, 114, 105, 116, 121]⟩ : ByteArray), (⟨#[]⟩ : ByteArray)), ((⟨#[58, 112, 97, 116, 104]⟩ : ByteArray), (⟨#[47]⟩ : ByteArray)), ((⟨#[58, 109, 101, 116, 104, 111, 100]⟩ : ByteArray), (⟨#[67, 79, 78, 78, 69, 67, 84]⟩ : ByteArray)), ((⟨#[58, 109, 101, 116, 104, 111, 100]⟩ : ByteArray), (⟨#[71, 69, 84]⟩ : ByteArray)), ((⟨#[58, 109, 101, 116, 104, 111, 100]⟩ : ByteArray), (⟨#[80, 79, 83, 84]⟩ : ByteArray)), ((⟨#[58, 115, 99, 104, 101, 109, 101]⟩ : ByteArray), (⟨#[104, 116, 116, 112]⟩ : ByteArray)), ((⟨#[58, 115, 99, 104, 101, 109, 101]⟩ : ByteArray), (⟨#[104, 116, 116, 112, 115]⟩ : ByteArray)), ((⟨#[58, 115, 116, 97, 116, 117, 115]⟩ : ByteArray), (⟨#[50, 48, 48]⟩ : ByteArray)), ((⟨#[58, 115, 116, 97, 116, 117, 115]⟩ : ByteArray), (⟨#[52, 48, 52]⟩ : ByteArray)), ((⟨#[58, 115, 116, 97, 116, 117, 115]⟩ : ByteArray), (⟨#[53, 48, 51]⟩ : ByteArray)), ((⟨#[58, 112, 114, 111, 116, 111, 99, 111, 108]⟩ : ByteArray), (⟨#[99, 111, 110, 110, 101, 99, 116, 45, 117, 100, 112]⟩ : ByteArray)), ((⟨#[99, 97, 112, 115, 117, 108, 101, 45, 112, 114, 111, 116, 111, 99, 111, 108]⟩ : ByteArray), (⟨#[63, 49]⟩ : ByteArray)), ((⟨#[99, 111, 110, 116, 101, 110, 116, 45, 108, 101, 110, 103, 116, 104]⟩ : ByteArray), (⟨#[48]⟩ : ByteArray)), ((⟨#[100, 97, 116, 101]⟩ : ByteArray), (⟨#[]⟩ : ByteArray)), ((⟨#[117, 115, 101, 114, 45, 97, 103, 101, 110, 116]⟩ : ByteArray), (⟨#[]⟩ : ByteArray)), ((⟨#[97, 99, 99, 101, 112, 116]⟩ : ByteArray), (⟨#[42, 47, 42]⟩ : ByteArray))]
theorem static_i : EvP (fun N => impl_static N) (· = ((statT, ()), ())) := EvP.of (fun N => impl_static.eq N) (EvP.some rfl)
theorem static_s : EvP (fun N => spec_l15Static N) (· = ((statT, ()), ())) := EvP.of (fun N => spec_l15Static.eq N) (EvP.some rfl)
/-- A number n behind what the first byte has above it; m is the greatest that fits in. -/
def preF (m first n : Int) : ByteArray := if n < m then be 1 (first + n) else be 1 (first + m) ++ be 1 (n - m)
/-- The kinds of prefixes that fields have: bits, the greatest number, what stands above. -/
def PreK (k m first : Int) : Prop := (k = 7 ∧ m = 127 ∧ first = 0) ∨ (k = 6 ∧ m = 63 ∧ first = 192) ∨ (k = 4 ∧ m = 15 ∧ first = 80) ∨ (k = 3 ∧ m = 7 ∧ first = 32)
theorem preK_r {k m first : Int} (h : PreK k m first) : 3 ≤ k ∧ k ≤ 7 ∧ IntKind.i64.wrap (shlI .i64 1 k - 1) = m ∧ IntKind.u64.wrap k = k ∧ 7 ≤ m ∧ m ≤ 127 ∧ 0 ≤ first ∧ first + m ≤ 255 := by
  rcases h with ⟨rfl, rfl, rfl⟩ | ⟨rfl, rfl, rfl⟩ | ⟨rfl, rfl, rfl⟩ | ⟨rfl, rfl, rfl⟩ <;> decide +kernel
theorem be1_size (x : Int) : (be 1 x).size = 1 := be_size 1 x
theorem preF_size (m first n : Int) : (preF m first n).size = if n < m then 1 else 2 := by
  unfold preF
  split
  · exact be1_size _
  · rw [ByteArray.size_append, be1_size, be1_size]
theorem preF_le (m first n : Int) : (preF m first n).size ≤ 2 := by rw [preF_size]; split <;> omega
theorem be1_i (x : Int) (h : 0 ≤ x) : EvP (fun N => impl_bigEndian N x 1) (· = ((be 1 x, ()), ())) := bigEndian_ok x 1 h (by omega)
theorem be1_s (x : Int) : EvP (fun N => spec_l1Fixed N x 1) (· = ((be 1 x, ()), ())) := fixed_ok x 1 (by omega)
theorem pre_i {k m first n : Int} (h : PreK k m first) (h0 : 0 ≤ n) (h1 : n ≤ m + 127) : EvP (fun N => impl_prefixed N n k first) (· = ((preF m first n, ()), ())) := by
  obtain ⟨k1, k2, k3, k4, k5, k6, k7, k8⟩ := preK_r h
  refine EvP.of (fun N => impl_prefixed.eq N _ _ _) (EvP.chk1 (by omega) ?_)
  simp only [k3]
  unfold preF
  refine EvP.ite (fun h2 => ?_) (fun h2 => ?_)
  · rw [if_pos h2, i64w (n := first + n) (by omega) (by omega), u64i (n := first + n) (by omega) (by omega)]
    exact EvP.to (be1_i _ (by omega)) (EvP.some rfl)
  · rw [if_neg h2, i64w (n := first + m) (by omega) (by omega), u64i (n := first + m) (by omega) (by omega), i64w (n := n - m) (by omega) (by omega)]
    refine EvP.to (be1_i _ (by omega)) (EvP.to (a := ((n - m, (be 1 (first + m), ())), ())) (EvP.step (fun N => impl_prefixed.l0.eq N _ _) (EvP.neg (by omega) (EvP.some rfl))) ?_)
    dsimp only
    rw [u64i (n := n - m) (by omega) (by omega)]
    exact EvP.to (be1_i _ (by omega)) (EvP.chk1 (by dsimp only; rw [be1_size, be1_size]; omega) (EvP.some rfl))
theorem or_pre {k m first n : Int} (h : PreK k m first) (h0 : 0 ≤ n) (h1 : n ≤ m) : Go.bits .or .i64 first n = first + n := by
  have key : ∀ (i : Nat) (a : Int), 0 ≤ a → a * 2 ^ i < 256 → n < 2 ^ i → i ≤ 7 → Go.bits .or .i64 (a * 2 ^ i) n = a * 2 ^ i + n := fun i a ha h2 h3 hi => by
    have h4 : (2 : Int) ^ i ≤ 128 := by
      have : ∀ j : Nat, j ≤ 7 → (2 : Int) ^ j ≤ 128 := by intro j hj; have : j = 0 ∨ j = 1 ∨ j = 2 ∨ j = 3 ∨ j = 4 ∨ j = 5 ∨ j = 6 ∨ j = 7 := by omega
                                                          rcases this with rfl | rfl | rfl | rfl | rfl | rfl | rfl | rfl <;> decide
      exact this i hi
    exact bits_or_disj .i64 63 (by decide) wraps_i64 i a n ha (by have : (2 : Int) ^ 63 = 9223372036854775808 := by decide
                                                                  omega) h0 h3 (by have : (2 : Int) ^ 63 = 9223372036854775808 := by decide
                                                                                   omega)
  rcases h with ⟨rfl, rfl, rfl⟩ | ⟨rfl, rfl, rfl⟩ | ⟨rfl, rfl, rfl⟩ | ⟨rfl, rfl, rfl⟩
  · exact key 7 0 (by decide) (by decide) (by show n < 128; omega) (by decide)
  · exact key 6 3 (by decide) (by decide) (by show n < 64; omega) (by decide)
  · exact key 4 5 (by decide) (by decide) (by show n < 16; omega) (by decide)
  · exact key 3 4 (by decide) (by decide) (by show n < 8; omega) (by decide)
theorem pre_s {k m first n : Int} (h : PreK k m first) (h0 : 0 ≤ n) (h1 : n ≤ m + 127) : EvP (fun N => spec_l15Prefix N n k first) (· = ((preF m first n, ()), ())) := by
  obtain ⟨k1, k2, k3, k4, k5, k6, k7, k8⟩ := preK_r h
  refine EvP.of (fun N => spec_l15Prefix.eq N _ _ _) (EvP.chk1 (by rw [k4]; omega) ?_)
  simp only [k4, k3]
  unfold preF
  refine EvP.ite (fun h2 => ?_) (fun h2 => ?_)
  · rw [if_pos h2, or_pre h h0 (by omega)]
    exact EvP.to (be1_s _) (EvP.some rfl)
  · rw [if_neg h2, or_pre h (by omega) (Int.le_refl _), i64w (n := n - m) (by omega) (by omega)]
    refine EvP.to (be1_s _) (EvP.to (a := ((n - m, (be 1 (first + m), ())), ())) (EvP.step (fun N => spec_l15Prefix.l0.eq N _ _) (EvP.neg (by omega) (EvP.some rfl))) ?_)
    exact EvP.to (be1_s _) (EvP.chk1 (by dsimp only; rw [be1_size, be1_size]; omega) (EvP.some rfl))
theorem and_tab : ∀ b : Fin 256, Go.bits .and .i64 ((b : Nat) : Int) 127 = ((b : Nat) : Int) % 128 ∧ Go.bits .and .i64 ((b : Nat) : Int) 63 = ((b : Nat) : Int) % 64 ∧ Go.bits .and .i64 ((b : Nat) : Int) 15 = ((b : Nat) : Int) % 16 ∧ Go.bits .and .i64 ((b : Nat) : Int) 7 = ((b : Nat) : Int) % 8 := by decide +kernel
theorem and_pre {k m first n : Int} (h : PreK k m first) (h0 : 0 ≤ n) (h1 : n ≤ m) : Go.bits .and .i64 (first + n) m = n := by
  obtain ⟨k1, k2, k3, k4, k5, k6, k7, k8⟩ := preK_r h
  obtain ⟨x, hx⟩ := Int.eq_ofNat_of_zero_le (show 0 ≤ first + n by omega)
  have ht := and_tab ⟨x, by omega⟩
  dsimp only at ht
  rw [← hx] at ht
  rcases h with ⟨rfl, rfl, rfl⟩ | ⟨rfl, rfl, rfl⟩ | ⟨rfl, rfl, rfl⟩ | ⟨rfl, rfl, rfl⟩
  · rw [ht.1]; omega
  · rw [ht.2.1]; omega
  · rw [ht.2.2.1]; omega
  · rw [ht.2.2.2]; omega
theorem pre_head {m first n : Int} (rest : ByteArray) (h : 0 ≤ first) (h0 : 0 ≤ n) (hm : 0 ≤ m) (h2 : first + m ≤ 255) : (bytesL (preF m first n ++ rest)).getD 0 0 = first + (if n < m then n else m) := by
  unfold preF
  split
  · rw [bytesL_append, bytesL_be, BE_one]
    show (first + n) % 256 = _
    omega
  · rw [bytesL_append, bytesL_append, bytesL_be, BE_one]
    show (first + m) % 256 = _
    omega
theorem takePre {k m first n : Int} (rest : ByteArray) (h : PreK k m first) (h0 : 0 ≤ n) (h1 : n ≤ m + 127) (hr : rest.size ≤ 1000000) :
    EvP (fun N => impl_TakePrefix N (preF m first n ++ rest) k) (fun z => z.1.1 = n ∧ z.1.2.2.1 = ((preF m first n).size : Int)) := by
  obtain ⟨k1, k2, k3, k4, k5, k6, k7, k8⟩ := preK_r h
  have hsz : (preF m first n ++ rest).size = (preF m first n).size + rest.size := ByteArray.size_append
  have hs := preF_size m first n
  have hpos : 1 ≤ (preF m first n).size := by rw [hs]; split <;> omega
  have hle := preF_le m first n
  refine EvP.of (fun N => impl_TakePrefix.eq N _ _) (EvP.to (a := ((false, ()), ())) ?_ (EvP.no rfl ?_))
  · refine EvP.to (EvP.of (fun N => impl_bitsOk.eq N _) (EvP.to (in_impl _ _ _) (EvP.some rfl))) (EvP.nneg ⟨by omega, by omega⟩ (EvP.some ?_))
    rw [decide_eq_false (show ¬ (preF m first n ++ rest) = (⟨#[]⟩ : ByteArray) from fun e => by rw [eq_nil_iff] at e; omega)]
  · refine EvP.chk1 (by omega) (EvP.chk1 (by omega) (EvP.chk1 (by omega) ?_))
    rw [pre_head rest k7 h0 (by omega) k8, k3]
    by_cases hn : n < m
    · rw [if_pos hn, i64w (n := first + n) (by omega) (by omega), and_pre h h0 (by omega)]
      refine EvP.pos hn (EvP.some ⟨rfl, ?_⟩)
      rw [hs, if_pos hn]; rfl
    · rw [if_neg hn, i64w (n := first + m) (by omega) (by omega), and_pre h (by omega) (Int.le_refl _)]
      have hs2 : (preF m first n).size = 2 := by rw [hs, if_neg hn]
      have hb : (bytesL (preF m first n ++ rest)).getD (Int.toNat 1) 0 = n - m := by
        unfold preF
        rw [if_neg hn, bytesL_append, bytesL_append, bytesL_be, bytesL_be, BE_one, BE_one]
        show (n - m) % 256 = _
        omega
      have e1 : IntKind.i64.wrap (7 * IntKind.i64.wrap ((1 : Int) - 1)) = 0 := by decide +kernel
      have e2 : IntKind.i64.wrap (Int.tmod (n - m) 128) = n - m := by
        rw [Int.tmod_eq_emod_of_nonneg (by omega), i64w (by omega) (by omega)]; omega
      have e3 : shlI .i64 (n - m) 0 = n - m := by
        show IntKind.i64.wrap ((n - m) * 2 ^ (min (Int.toNat 0) _)) = _
        rw [show Int.toNat 0 = 0 from rfl, Nat.zero_min, Int.pow_zero, Int.mul_one]
        exact i64w (by omega) (by omega)
      refine EvP.neg (by omega) (EvP.andK (Q := fun z => ∃ w : Int, z = .inl ((n, (w, (2, ()))), ())) (EvP.step (fun N => impl_TakePrefix.l0.eq N _ _ _ _) ?_) ?_)
      · refine EvP.to (a := ((true, ()), ())) (EvP.pos (by omega) (EvP.some rfl)) (EvP.yes rfl (EvP.chk2 (by omega) (by omega) (EvP.chk1 (by rw [e1]; omega) (EvP.chk2 (by omega) (by omega) ?_))))
        rw [hb, e1, e2, e3, i64w (n := m + (n - m)) (by omega) (by omega)]
        refine EvP.pos (by omega) (EvP.neg (by omega) (EvP.some ⟨Go.bits .andNot .i64 (first + m) m, ?_⟩))
        rw [show m + (n - m) = n by omega, show IntKind.i64.wrap ((1 : Int) + 1) = 2 by decide +kernel]
      · rintro _ ⟨w, rfl⟩
        exact EvP.inl (EvP.some ⟨rfl, by rw [hs2]; rfl⟩)
theorem curPre {k m first n : Int} (rest : ByteArray) (h : PreK k m first) (h0 : 0 ≤ n) (h1 : n ≤ m + 127) (hr : rest.size ≤ 1000000) :
    EvP (fun N => impl_cursor_prefix N k (preF m first n ++ rest) false) (· = ((n, ()), ((rest, (false, ())), ()))) := by
  have hsz : (preF m first n ++ rest).size = (preF m first n).size + rest.size := ByteArray.size_append
  have hs := preF_size m first n
  have hpos : 1 ≤ (preF m first n).size := by rw [hs]; split <;> omega
  refine EvP.of (fun N => impl_cursor_prefix.eq N _ _ _) (EvP.andK (takePre rest h h0 h1 hr) ?_)
  rintro ⟨⟨z1, z2, z3, ⟨⟩⟩, ⟨⟩⟩ ⟨e1, e2⟩
  dsimp only at e1 e2
  subst e1 e2
  refine EvP.to (EvP.neg (by dsimp only; omega) (EvP.some rfl)) (EvP.chk3 (by dsimp only; omega) (by dsimp only; omega) (by dsimp only; omega) (EvP.some ?_))
  dsimp only
  rw [Int.toNat_natCast, Int.toNat_natCast, extract_app_two rfl hsz]
theorem curTake (t rest : ByteArray) (ht : t.size ≤ 1000000) (hr : rest.size ≤ 1000000) : EvP (fun N => impl_cursor_take N (t.size : Int) (t ++ rest) false) (· = ((t, ()), ((rest, (false, ())), ()))) := by
  have hsz : (t ++ rest).size = t.size + rest.size := ByteArray.size_append
  refine EvP.of (fun N => impl_cursor_take.eq N _ _ _) (EvP.to (a := (((), (false, ())), ((t ++ rest, (false, ())), ()))) (EvP.no rfl (EvP.some ?_)) ?_)
  · rw [decide_eq_false (show ¬ ((t ++ rest).size : Int) < t.size by omega)]
  · refine EvP.no rfl (EvP.chk2 (by omega) (by dsimp only; omega) (EvP.chk3 (by omega) (by dsimp only; omega) (by dsimp only; omega) (EvP.some ?_)))
    dsimp only
    rw [Int.toNat_natCast, Int.toNat_natCast, extract_app_two rfl hsz, extract_app_one rfl]
end Go.Proofs.YthkjjombaoffcaaDoor.CFnFields
