/- Texts that are unlike in one byte alone; their hashes and tags. -/
import Derived.Test.YtakemokmdlogoaaQGcmWFnSealed
import Derived.Test.YtakemokmdlogoaaQField
set_option linter.unusedVariables false
set_option linter.unusedSimpArgs false
namespace Go.Proofs.Ytakemokmdlogoaa.CFnSealed
open Go Go.Proofs Go.Proofs.YtakemokmdlogoaaPM Go.Proofs.Ytakemokmdlogoaa.Q Go.Proofs.Ytakemokmdlogoaa.G128 Go.Proofs.Ytakemokmdlogoaa.GFnSealed

structure One (s t : ByteArray) (p : Nat) : Prop where
  size : s.size = t.size
  lt : p < s.size
  ne : byteAt s p ≠ byteAt t p
  eq : ∀ i, i ≠ p → byteAt s i = byteAt t i
theorem One.right {s t : ByteArray} {p : Nat} (h : One s t p) (u : ByteArray) : One (s ++ u) (t ++ u) p := by
  have h1 := h.size
  have h2 := h.lt
  refine ⟨by rw [ByteArray.size_append, ByteArray.size_append, h1], by rw [ByteArray.size_append]; omega, ?_, fun i hi => ?_⟩
  · rw [byteAt_app_left h2, byteAt_app_left (by omega)]; exact h.ne
  · by_cases e : i < s.size
    · rw [byteAt_app_left e, byteAt_app_left (by omega)]; exact h.eq i hi
    · rw [byteAt_app_right (by omega), byteAt_app_right (by omega), h1]
theorem One.left {s t : ByteArray} {p : Nat} (h : One s t p) (u : ByteArray) : One (u ++ s) (u ++ t) (u.size + p) := by
  have h1 := h.size
  have h2 := h.lt
  refine ⟨by rw [ByteArray.size_append, ByteArray.size_append, h1], by rw [ByteArray.size_append]; omega, ?_, fun i hi => ?_⟩
  · rw [byteAt_app_right (by omega), byteAt_app_right (by omega), show u.size + p - u.size = p by omega]; exact h.ne
  · by_cases e : i < u.size
    · rw [byteAt_app_left e, byteAt_app_left e]
    · rw [byteAt_app_right (by omega), byteAt_app_right (by omega)]; exact h.eq _ (by omega)
theorem One.filled {s t : ByteArray} {p : Nat} (h : One s t p) : One (fz s) (fz t) p := by
  unfold fz
  rw [h.size]
  exact h.right _
theorem One.block {s t : ByteArray} {p m : Nat} (h : One s t p) (hm : s.size = 16 * m) (hh : V) (h0 : hh ≠ zero) (x : V) : Gh hh s m 0 x ≠ Gh hh t m 0 x := by
  have h1 := h.size
  have h2 := h.lt
  refine Gh_other h0 h1 m 0 x (p / 16) (by omega) (by omega) (fun k hk hne => ?_) (fun e => ?_)
  · simp only [Nat.zero_add]
    refine str_ext (by rw [extract_size (by omega), extract_size (by omega)]) fun i hi => ?_
    rw [extract_size (by omega)] at hi
    rw [byteAt_extract (by omega), byteAt_extract (by omega)]
    exact h.eq _ (by omega)
  · simp only [Nat.zero_add] at e
    have := congrArg (fun z => byteAt z (p % 16)) e
    rw [byteAt_extract (by omega), byteAt_extract (by omega), show 16 * (p / 16) + p % 16 = p by omega] at this
    exact h.ne this
theorem gtext_m (a b : ByteArray) : (gtext a b).size = 16 * ((gtext a b).size / 16) := by have := gtext_16 a b; omega
theorem tagH_sealed {key beside s t : ByteArray} {p : Nat} (h : One s t p) (h0 : Hk key ≠ zero) : tagH key beside s ≠ tagH key beside t := by
  have h1 : One (gtext beside s) (gtext beside t) ((fz beside).size + p) := by
    unfold gtext
    rw [h.size]
    exact ((h.filled.left (fz beside)).right _)
  have h2 := h1.block (gtext_m beside s) _ h0 zero
  unfold tagH
  rw [← h1.size]
  exact h2
theorem tagH_beside {key sealed s t : ByteArray} {p : Nat} (h : One s t p) (h0 : Hk key ≠ zero) : tagH key s sealed ≠ tagH key t sealed := by
  have h1 : One (gtext s sealed) (gtext t sealed) p := by
    unfold gtext
    rw [h.size]
    exact ((h.filled.right (fz sealed)).right _)
  have h2 := h1.block (gtext_m s sealed) _ h0 zero
  unfold tagH
  rw [← h1.size]
  exact h2
theorem byteAt_xs {a b : ByteArray} {i : Nat} (h : i < a.size) : byteAt (xs a b) i = byteAt a i ^^^ byteAt b i :=
  byteAt_strL (f := fun i => byteAt a i ^^^ byteAt b i) (fun j => xor_lt (byteAt_lt _ _) (byteAt_lt _ _)) i h
theorem xor_cancel_right {a b c : Nat} (h : a ^^^ c = b ^^^ c) : a = b := by
  have := congrArg (fun x => x ^^^ c) h
  simpa [Nat.xor_assoc] using this
theorem xor_cancel_left {a b c : Nat} (h : c ^^^ a = c ^^^ b) : a = b := by rw [Nat.xor_comm c a, Nat.xor_comm c b] at h; exact xor_cancel_right h
theorem xs_left {a a2 b : ByteArray} (hs : a.size = a2.size) (h : xs a b = xs a2 b) : a = a2 := str_ext hs fun i hi => by
  have := congrArg (fun z => byteAt z i) h
  rw [byteAt_xs hi, byteAt_xs (by omega)] at this
  exact xor_cancel_right this
theorem xs_right {a b b2 : ByteArray} (h1 : b.size = a.size) (h2 : b2.size = a.size) (h : xs a b = xs a b2) : b = b2 := str_ext (by omega) fun i hi => by
  have := congrArg (fun z => byteAt z i) h
  rw [byteAt_xs (by omega), byteAt_xs (by omega)] at this
  exact xor_cancel_left this
theorem tag_sealed {key nonce beside s t : ByteArray} {p : Nat} (h : One s t p) (h0 : Hk key ≠ zero) : tagF key nonce beside s ≠ tagF key nonce beside t := fun e =>
  tagH_sealed h h0 (tOf_inj (xs_left (by rw [tOf_size, tOf_size]) e))
theorem tag_beside {key nonce sealed s t : ByteArray} {p : Nat} (h : One s t p) (h0 : Hk key ≠ zero) : tagF key nonce s sealed ≠ tagF key nonce t sealed := fun e =>
  tagH_beside h h0 (tOf_inj (xs_left (by rw [tOf_size, tOf_size]) e))
theorem tag_nonce {key beside sealed n m : ByteArray} (hn : n.size = 12) (hm : m.size = 12) (h : n ≠ m) : tagF key n beside sealed ≠ tagF key m beside sealed := fun e => by
  have h1 := xs_right (by rw [aes_size, tOf_size]) (by rw [aes_size, tOf_size]) e
  have h2 := aes_inj key (by rw [ByteArray.size_append, be_size, hn]) (by rw [ByteArray.size_append, be_size, hm]) h1
  have h3 := congrArg (fun z => z.extract 0 12) h2
  rw [extract_app_one hn.symm, extract_app_one hm.symm] at h3
  exact h h3
theorem Hk_ne {key : ByteArray} (h : aes key (zs 16) ≠ zs 16) : Hk key ≠ zero := fun e => h (by
  have h1 : vOf (zs 16) = zero := by
    unfold vOf zero
    have e1 : (zs 16).extract 0 8 = be 8 0 := rfl
    have e2 : (zs 16).extract 8 16 = be 8 0 := rfl
    rw [e1, e2, vof_be]
    rfl
  exact vOf_inj (aes_size _ _) (zs_size 16) (by rw [h1]; exact e))
end Go.Proofs.Ytakemokmdlogoaa.CFnSealed
