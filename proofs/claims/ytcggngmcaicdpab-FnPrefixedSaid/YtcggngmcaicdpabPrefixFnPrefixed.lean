/- A number behind some bits of a first byte: what both packages write and read. -/
import Derived.Test.YtcggngmcaicdpabBeImplFnPrefixed
import Derived.Test.YtcggngmcaicdpabBeSpecFnPrefixed
import Derived.Test.YtcggngmcaicdpabInFnPrefixed
set_option linter.unusedVariables false
set_option linter.unusedSimpArgs false
namespace Go.Proofs.Ytcggngmcaicdpab.CFnPrefixed
open Go.RowKit Go.Proofs.Ytcggngmcaicdpab.B Go.Proofs.Ytcggngmcaicdpab.PFnPrefixed Go.Proofs.YtcggngmcaicdpabW.PrintWords Go.Proofs.YtcggngmcaicdpabW.PrintLast Go.Proofs.YtcggngmcaicdpabW.PrintMore

/-! ### powers of two -/
theorem bits_cases {b : Int} (h : 3 ≤ b ∧ b ≤ 8) : b = 3 ∨ b = 4 ∨ b = 5 ∨ b = 6 ∨ b = 7 ∨ b = 8 := by omega
/-- 2 to the power of b. -/
def P2 (b : Int) : Int := 2 ^ b.toNat
theorem P2_cases {b : Int} (h : 3 ≤ b ∧ b ≤ 8) : (P2 b = 8 ∨ P2 b = 16 ∨ P2 b = 32 ∨ P2 b = 64 ∨ P2 b = 128 ∨ P2 b = 256) := by
  rcases bits_cases h with rfl | rfl | rfl | rfl | rfl | rfl <;> simp [P2]
theorem shl_P2 {b : Int} (h : 3 ≤ b ∧ b ≤ 8) : shl .i64 1 b = P2 b := by
  rcases bits_cases h with rfl | rfl | rfl | rfl | rfl | rfl <;> decide
theorem i64_mask (x : Int) (h0 : 0 ≤ x) (h1 : x < 9223372036854775808) {b : Int} (h : 3 ≤ b ∧ b ≤ 8) : Go.bits .and .i64 x (P2 b - 1) = x % P2 b := by
  unfold P2
  exact bits_mask .i64 63 (by decide) wraps_i64 b.toNat (by omega) x h0 (by simpa using h1)
theorem i64_or {x y : Int} {b : Int} (h : 3 ≤ b ∧ b ≤ 8) (hx : 0 ≤ x ∧ x ≤ 255) (hm : x % P2 b = 0) (hy : 0 ≤ y ∧ y < P2 b) : Go.bits .or .i64 x y = x + y := by
  unfold P2 at hm hy
  refine bits_join .i64 63 (by decide) wraps_i64 b.toNat x y hx.1 hm (by simp only [Int.reducePow]; omega) hy.1 hy.2 ?_
  have := P2_cases h
  unfold P2 at this
  simp only [Int.reducePow] at *
  omega
theorem or_comm (k : IntKind) (x y : Int) : Go.bits .or k x y = Go.bits .or k y x := by unfold Go.bits; simp only; rw [BitVec.or_comm]
theorem i64_or128 {x : Int} (hx : 0 ≤ x ∧ x < 128) : Go.bits .or .i64 x 128 = x + 128 := by
  rw [or_comm, bits_join .i64 63 (by decide) wraps_i64 7 128 x (by decide) (by decide) (by decide) hx.1 (by simpa using hx.2) (by simp only [Int.reducePow]; omega)]
  omega
theorem i64_and127 (x : Int) (h0 : 0 ≤ x) (h1 : x < 9223372036854775808) : Go.bits .and .i64 x 127 = x % 128 :=
  bits_mask .i64 63 (by decide) wraps_i64 7 (by decide) x h0 (by simpa using h1)
theorem u8_and127 (x : Int) (h0 : 0 ≤ x) (h1 : x < 256) : Go.bits .and .u8 x 127 = x % 128 :=
  bits_mask .u8 8 (by decide) wraps_u8 7 (by decide) x h0 (by simpa using h1)

/-! ### writing -/
/-- What goes on, in fives of seven bits. -/
def cont : Nat → Int → List Int
  | 0, n => [n]
  | f + 1, n => if n < 128 then [n] else (n % 128 + 128) :: cont f (n / 128)
theorem cont_bytes (f : Nat) : ∀ n, 0 ≤ n → n < 128 ^ (f + 1) → Bytes (cont f n) := by
  induction f with
  | zero => intro n h0 h1; simp at h1; exact Bytes.cons (by omega) Bytes.nil
  | succ f ih =>
    intro n h0 h1
    rw [cont]
    split
    · exact Bytes.cons (by omega) Bytes.nil
    · refine Bytes.cons (by omega) (ih _ (by omega) ?_)
      rw [Int.pow_succ] at h1
      exact Int.ediv_lt_of_lt_mul (by decide) h1
theorem cont_length (f : Nat) : ∀ n, 1 ≤ (cont f n).length ∧ (cont f n).length ≤ f + 1 := by
  induction f with
  | zero => intro n; simp [cont]
  | succ f ih =>
    intro n
    rw [cont]
    split
    · simp
    · have := ih (n / 128); simp; omega
def pfx (n b first : Int) : List Int := if n < P2 b - 1 then [first + n] else (first + (P2 b - 1)) :: cont 4 (n - (P2 b - 1))
/-- Is it as said? -/
def PreOk (n b first : Int) : Prop := (0 ≤ n ∧ n ≤ 1000000000) ∧ (3 ≤ b ∧ b ≤ 8) ∧ (0 ≤ first ∧ first ≤ 255) ∧ first % P2 b = 0
instance (n b first : Int) : Decidable (PreOk n b first) := by unfold PreOk; infer_instance
theorem first_fit {n b first : Int} (h : PreOk n b first) (x : Int) (hx : 0 ≤ x ∧ x < P2 b) : 0 ≤ first + x ∧ first + x ≤ 255 := by
  obtain ⟨_, hb, hf, hm⟩ := h
  rcases P2_cases hb with e | e | e | e | e | e <;> rw [e] at hm hx <;> omega
theorem pfx_bytes {n b first : Int} (h : PreOk n b first) : Bytes (pfx n b first) := by
  have hp := P2_cases h.2.1
  unfold pfx
  split
  · exact Bytes.cons (first_fit h n ⟨h.1.1, by omega⟩) Bytes.nil
  · exact Bytes.cons (first_fit h _ ⟨by omega, by omega⟩) (cont_bytes 4 _ (by omega) (by have := h.1.2; simp only [Nat.reduceAdd, Int.reducePow]; omega))
theorem pfx_length (n b first : Int) : (pfx n b first).length ≤ 6 := by
  unfold pfx
  split
  · simp
  · have := cont_length 4 (n - (P2 b - 1)); simp; omega

theorem impl_cont (f : Nat) : ∀ (n : Int) (x : ByteArray), 0 ≤ n → n < 128 ^ (f + 1) → n ≤ 1000000000 → x.size + f ≤ 100 →
    EvP (fun k => impl_prefixed.l0 k n x) (fun r => B r = B x ++ cont f n) := by
  induction f with
  | zero =>
    intro n x h0 h1 h2 hz
    refine EvP.step (fun k => by rw [impl_prefixed.l0]) ?_
    simp only [Int.reducePow, Nat.zero_add] at h1
    rw [u64w_id (n := n) (by omega) (by omega)]
    refine EvP.neg (by omega) (EvP.bind (bigEndian_ok n 1 (by omega) (by decide)) ?_)
    rintro r rfl
    refine EvP.pos (by rw [strOfNums_size, BE_length]; omega) (EvP.some ?_)
    rw [B_append, B_strOfNums (BE_bytes _ _), BE_one, Int.emod_eq_of_lt (by omega) (by omega)]
    rfl
  | succ f ih =>
    intro n x h0 h1 h2 hz
    refine EvP.step (fun k => by rw [impl_prefixed.l0]) ?_
    rw [cont]
    refine EvP.ite (fun hc => ?_) (fun hc => ?_)
    · rw [if_neg (by omega), Int.tmod_eq_emod_of_nonneg h0, Int.tdiv_eq_ediv_of_nonneg h0, w64 (n := n % 128 + 128) (by omega) (by omega), u64w_id (n := n % 128 + 128) (by omega) (by omega), w64 (n := n / 128) (by omega) (by omega)]
      refine EvP.bind (bigEndian_ok (n % 128 + 128) 1 (by omega) (by decide)) ?_
      rintro r rfl
      refine EvP.pos (by rw [strOfNums_size, BE_length]; omega) ?_
      rw [Int.pow_succ] at h1
      refine (ih _ _ (by omega) (Int.ediv_lt_of_lt_mul (by decide) h1) (by omega) (by rw [ByteArray.size_append, strOfNums_size, BE_length]; omega)).mono ?_
      intro r hr
      rw [hr, B_append, B_strOfNums (BE_bytes _ _), BE_one, Int.emod_eq_of_lt (by omega) (by omega)]
      simp
    · rw [if_pos (by omega), u64w_id (n := n) (by omega) (by omega)]
      refine EvP.bind (bigEndian_ok n 1 (by omega) (by decide)) ?_
      rintro r rfl
      refine EvP.pos (by rw [strOfNums_size, BE_length]; omega) (EvP.some ?_)
      rw [B_append, B_strOfNums (BE_bytes _ _), BE_one, Int.emod_eq_of_lt (by omega) (by omega)]
theorem impl_pfx {n b first : Int} (h : PreOk n b first) : EvP (fun k => impl_prefixed.f k n b first) (fun r => B r = pfx n b first) := by
  obtain ⟨hn, hb, hf, hm⟩ := id h
  have hp := P2_cases hb
  simp only [impl_prefixed.f]
  rw [shl_P2 hb, w64 (n := P2 b - 1) (by omega) (by omega)]
  unfold pfx
  refine EvP.pos (by omega) (EvP.ite (fun hc => ?_) (fun hc => ?_))
  · have ff := first_fit h n ⟨hn.1, by omega⟩
    rw [if_pos hc, w64 (n := first + n) (by omega) (by omega), u64w_id (n := first + n) (by omega) (by omega)]
    refine EvP.bind (bigEndian_ok (first + n) 1 (by omega) (by decide)) ?_
    rintro r rfl
    refine EvP.some ?_
    rw [B_strOfNums (BE_bytes _ _), BE_one, Int.emod_eq_of_lt (by omega) (by omega)]
  · have ff := first_fit h (P2 b - 1) ⟨by omega, by omega⟩
    rw [if_neg hc, w64 (n := first + (P2 b - 1)) (by omega) (by omega), u64w_id (n := first + (P2 b - 1)) (by omega) (by omega), w64 (n := n - (P2 b - 1)) (by omega) (by omega)]
    refine EvP.bind (bigEndian_ok (first + (P2 b - 1)) 1 (by omega) (by decide)) ?_
    rintro r rfl
    refine (impl_cont 4 _ _ (by omega) (by simp only [Nat.reduceAdd, Int.reducePow]; omega) (by omega) (by rw [strOfNums_size, BE_length]; omega)).mono ?_
    intro r hr
    rw [hr, B_strOfNums (BE_bytes _ _), BE_one, Int.emod_eq_of_lt (by omega) (by omega)]
    rfl
theorem spec_cont (f : Nat) : ∀ (n : Int) (x : ByteArray), 0 ≤ n → n < 128 ^ (f + 1) → n ≤ 1000000000 → x.size + f ≤ 100 →
    EvP (fun k => spec_l15Prefix.l0 k n x) (fun r => B r = B x ++ cont f n) := by
  induction f with
  | zero =>
    intro n x h0 h1 h2 hz
    refine EvP.step (fun k => by rw [spec_l15Prefix.l0]) ?_
    simp only [Int.reducePow, Nat.zero_add] at h1
    refine EvP.neg (by omega) (EvP.bind (fixed_ok n 1 (by decide)) ?_)
    rintro r rfl
    refine EvP.pos (by rw [strOfNums_size, BE_length]; omega) (EvP.some ?_)
    rw [B_append, B_strOfNums (BE_bytes _ _), BE_one, Int.emod_eq_of_lt (by omega) (by omega)]
    rfl
  | succ f ih =>
    intro n x h0 h1 h2 hz
    refine EvP.step (fun k => by rw [spec_l15Prefix.l0]) ?_
    rw [cont]
    refine EvP.ite (fun hc => ?_) (fun hc => ?_)
    · rw [if_neg (by omega), i64_and127 n h0 (by omega), i64_or128 ⟨by omega, by omega⟩]
      refine EvP.bind (fixed_ok (n % 128 + 128) 1 (by decide)) ?_
      rintro r rfl
      refine EvP.pos (by rw [strOfNums_size, BE_length]; omega) ?_
      rw [Int.pow_succ] at h1
      refine (ih _ _ (by omega) (Int.ediv_lt_of_lt_mul (by decide) h1) (by omega) (by rw [ByteArray.size_append, strOfNums_size, BE_length]; omega)).mono ?_
      intro r hr
      rw [hr, B_append, B_strOfNums (BE_bytes _ _), BE_one, Int.emod_eq_of_lt (by omega) (by omega)]
      simp
    · rw [if_pos (by omega)]
      refine EvP.bind (fixed_ok n 1 (by decide)) ?_
      rintro r rfl
      refine EvP.pos (by rw [strOfNums_size, BE_length]; omega) (EvP.some ?_)
      rw [B_append, B_strOfNums (BE_bytes _ _), BE_one, Int.emod_eq_of_lt (by omega) (by omega)]
theorem spec_pfx {n b first : Int} (h : PreOk n b first) : EvP (fun k => spec_l15Prefix.f k n b first) (fun r => B r = pfx n b first) := by
  obtain ⟨hn, hb, hf, hm⟩ := id h
  have hp := P2_cases hb
  simp only [spec_l15Prefix.f]
  rw [u64w_id (n := b) (by omega) (by omega), shl_P2 hb, w64 (n := P2 b - 1) (by omega) (by omega)]
  unfold pfx
  refine EvP.pos (by omega) (EvP.ite (fun hc => ?_) (fun hc => ?_))
  · have ff := first_fit h n ⟨hn.1, by omega⟩
    rw [if_pos hc, i64_or hb hf hm ⟨hn.1, by omega⟩]
    refine EvP.bind (fixed_ok (first + n) 1 (by decide)) ?_
    rintro r rfl
    refine EvP.some ?_
    rw [B_strOfNums (BE_bytes _ _), BE_one, Int.emod_eq_of_lt (by omega) (by omega)]
  · have ff := first_fit h (P2 b - 1) ⟨by omega, by omega⟩
    rw [if_neg hc, i64_or hb hf hm ⟨by omega, by omega⟩, w64 (n := n - (P2 b - 1)) (by omega) (by omega)]
    refine EvP.bind (fixed_ok (first + (P2 b - 1)) 1 (by decide)) ?_
    rintro r rfl
    refine (spec_cont 4 _ _ (by omega) (by simp only [Nat.reduceAdd, Int.reducePow]; omega) (by omega) (by rw [strOfNums_size, BE_length]; omega)).mono ?_
    intro r hr
    rw [hr, B_strOfNums (BE_bytes _ _), BE_one, Int.emod_eq_of_lt (by omega) (by omega)]
    rfl
def PreR (n b first : Int) : ByteArray × Bool := if PreOk n b first then (strOfNums (pfx n b first), true) else ((⟨#[]⟩ : ByteArray), false)
theorem PrefixBytes_impl (n b first : Int) : EvP (fun k => impl_PrefixBytes.f k n b first) (· = PreR n b first) := by
  unfold PreR
  simp only [impl_PrefixBytes.f, impl_bitsOk.f, in_impl, Option.bind_some]
  refine EvP.ite (fun h1 => EvP.ite (fun h2 => EvP.ite (fun h3 => ?_) (fun h3 => ?_)) (fun h2 => ?_)) (fun h1 => ?_)
  · have h1 := of_decide_eq_true h1; have h2 := of_decide_eq_true h2; have h3 := of_decide_eq_true h3
    have hp := P2_cases h2
    rw [shl_P2 h2, Int.tmod_eq_emod_of_nonneg h3.1]
    refine EvP.pos (by omega) (EvP.neg (by omega) (EvP.ite (fun h4 => ?_) (fun h4 => ?_)))
    · rw [if_pos (show PreOk n b first from ⟨h1, h2, h3, h4⟩)]
      refine EvP.bind (impl_pfx ⟨h1, h2, h3, h4⟩) ?_
      intro r hr
      exact EvP.some (by rw [← hr, strOfNums_B])
    · rw [if_neg (show ¬ PreOk n b first from fun q => h4 q.2.2.2)]; exact EvP.some rfl
  · rw [if_neg (show ¬ PreOk n b first from fun q => h3 (decide_eq_true q.2.2.1))]; exact EvP.some rfl
  · rw [if_neg (show ¬ PreOk n b first from fun q => h2 (decide_eq_true q.2.1))]; exact EvP.some rfl
  · rw [if_neg (show ¬ PreOk n b first from fun q => h1 (decide_eq_true q.1))]; exact EvP.some rfl
theorem PrefixBytes_spec (n b first : Int) : EvP (fun k => spec_PrefixBytes.f k n b first) (· = PreR n b first) := by
  unfold PreR
  simp only [spec_PrefixBytes.f, in_spec, Option.bind_some]
  refine EvP.ite (fun h1 => EvP.ite (fun h2 => EvP.ite (fun h3 => ?_) (fun h3 => ?_)) (fun h2 => ?_)) (fun h1 => ?_)
  · have h1 := of_decide_eq_true h1; have h2 := of_decide_eq_true h2; have h3 := of_decide_eq_true h3
    have hp := P2_cases h2
    rw [u64w_id (n := b) (by omega) (by omega), shl_P2 h2, w64 (n := P2 b - 1) (by omega) (by omega), i64_mask first h3.1 (by omega) h2]
    refine EvP.pos (by omega) (EvP.ite (fun h4 => ?_) (fun h4 => ?_))
    · rw [if_pos (show PreOk n b first from ⟨h1, h2, h3, h4⟩)]
      refine EvP.bind (spec_pfx ⟨h1, h2, h3, h4⟩) ?_
      intro r hr
      exact EvP.some (by rw [← hr, strOfNums_B])
    · rw [if_neg (show ¬ PreOk n b first from fun q => h4 q.2.2.2)]; exact EvP.some rfl
  · rw [if_neg (show ¬ PreOk n b first from fun q => h3 (decide_eq_true q.2.2.1))]; exact EvP.some rfl
  · rw [if_neg (show ¬ PreOk n b first from fun q => h2 (decide_eq_true q.2.1))]; exact EvP.some rfl
  · rw [if_neg (show ¬ PreOk n b first from fun q => h1 (decide_eq_true q.1))]; exact EvP.some rfl
end Go.Proofs.Ytcggngmcaicdpab.CFnPrefixed
