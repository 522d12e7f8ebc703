/- FnGhash: whatever is drawn, the hash of two texts xored is both hashes xored, and both packages tell the same. -/
import Derived.Test.YtcngjidojibleaaPolyImplFnGhash
import Derived.Test.YtcngjidojibleaaBlockSpecFnGhash
import Derived.Test.YtcngjidojibleaaCurBlockFnGhash
set_option linter.unusedVariables false
set_option linter.unusedSimpArgs false
namespace Go.Proofs.Ytcngjidojibleaa.Pure
open Go.RowKit Go.Proofs.Ytcngjidojibleaa.B Go.Proofs.Ytcngjidojibleaa.G128 Go.Proofs.Ytcngjidojibleaa.CFnGhash Go.Proofs.Ytcngjidojibleaa.PFnGhash Go.Proofs.YtcngjidojibleaaW.PrintWords Go.Proofs.YtcngjidojibleaaW.PrintLast Go.Proofs.YtcngjidojibleaaW.PrintMore

theorem draw_ok {l : List Int} (hl : Bytes l) : EvP (fun k => spec_DrawGhash.f k l) (fun _ => True) := by
  simp only [spec_DrawGhash.f]
  refine EvP.bind0 (pick_ok hl 0 0 4 (by omega) (by omega)) ?_
  intro p hp
  have hp2 := hp.2.2.1 (by omega)
  refine EvP.bind0 (one_ok hl _ _ 12 (by omega) (by omega)) ?_
  intro q hq
  refine EvP.ite (fun _ => ?_) (fun _ => ?_)
  · refine EvP.bind0 (among_ok hl _ _ (by omega) (by omega) _ (by simp)) ?_
    intro z hz
    have hz1 : 0 ≤ z.1 ∧ z.1 ≤ 3216 := by
      have := hz.1
      simp only [List.mem_cons, List.not_mem_nil, or_false] at this
      omega
    refine EvP.bind (block_ok hl _ _ (by omega) (by omega)) ?_
    intro r hr
    refine EvP.bind (sizedBytes_ok hl _ _ _ ⟨by omega, by omega⟩ (by omega) (by omega)) ?_
    intro t ht
    exact EvP.some trivial
  · refine EvP.bind (block_ok hl _ _ (by omega) (by omega)) ?_
    intro r hr
    rw [w64 (n := 16 * p.1) (by omega) (by omega)]
    refine EvP.bind (sizedBytes_ok hl _ _ _ ⟨by omega, by omega⟩ (by omega) (by omega)) ?_
    intro t ht
    exact EvP.some trivial
/-- The hash of m blocks from i on, behind acc. -/
def Gh (h : V) (s : ByteArray) : Nat → Nat → V → V
  | 0, _, acc => acc
  | m + 1, i, acc => Gh h s m (i + 16) (T h (xo acc (vOf (s.extract i (i + 16)))))
theorem ghash_l0 (h : V) (s : ByteArray) (hs : s.size ≤ 3200) (m : Nat) : ∀ (i : Nat) (acc : V), i + 16 * m = s.size →
    EvP (fun k => impl_ghash.l0 k s (i : Int) (N h.1) (N h.2) (N acc.1) (N acc.2)) (· = (N (Gh h s m i acc).1, N (Gh h s m i acc).2)) := by
  induction m with
  | zero =>
    intro i acc hi
    refine EvP.step (fun k => by rw [impl_ghash.l0]) ?_
    exact EvP.neg (by omega) (EvP.some rfl)
  | succ m ih =>
    intro i acc hi
    refine EvP.step (fun k => by rw [impl_ghash.l0]) ?_
    rw [w64 (n := (i : Int) + 16) (by omega) (by omega)]
    refine EvP.pos (by omega) (EvP.pos (by omega) (EvP.pos (by omega) (EvP.pos (by omega) ?_)))
    rw [show (i : Int) + 16 = ((i + 16 : Nat) : Int) by omega, Int.toNat_natCast, Int.toNat_natCast]
    refine EvP.bind (polyOf_impl (by rw [ByteArray.size_extract]; omega)) ?_
    rintro p rfl
    simp only [pxor_impl, Option.bind_some]
    refine EvP.bind (times_impl _ _) ?_
    rintro r rfl
    exact ih (i + 16) _ (by omega)
theorem l5Ghash_l0 (h : V) (s : ByteArray) (hs : s.size ≤ 3200) (m : Nat) : ∀ (i : Nat) (acc : V), i + 16 * m = s.size →
    EvP (fun k => spec_l5Ghash.l0 k s (i : Int) (N acc.1) (N acc.2) (N h.1) (N h.2)) (· = (N (Gh h s m i acc).1, N (Gh h s m i acc).2)) := by
  induction m with
  | zero =>
    intro i acc hi
    refine EvP.step (fun k => by rw [spec_l5Ghash.l0]) ?_
    exact EvP.neg (by omega) (EvP.some rfl)
  | succ m ih =>
    intro i acc hi
    refine EvP.step (fun k => by rw [spec_l5Ghash.l0]) ?_
    rw [w64 (n := (i : Int) + 16) (by omega) (by omega)]
    refine EvP.pos (by omega) (EvP.pos (by omega) (EvP.pos (by omega) (EvP.pos (by omega) ?_)))
    rw [show (i : Int) + 16 = ((i + 16 : Nat) : Int) by omega, Int.toNat_natCast, Int.toNat_natCast]
    refine EvP.bind (of_spec (by rw [ByteArray.size_extract]; omega)) ?_
    rintro p rfl
    simp only [xor_N]
    refine EvP.bind (mul_spec (xo acc (vOf (s.extract i (i + 16)))) h) ?_
    rintro r rfl
    rw [T_comm]
    exact ih (i + 16) _ (by omega)
/-- What both packages make of a key and a text. -/
def GH (h s : ByteArray) : ByteArray × Bool := if h.size = 16 ∧ s.size % 16 = 0 ∧ s.size ≤ 3200 then (tOf (Gh (vOf h) s (s.size / 16) 0 zero), true) else (⟨#[]⟩, false)
theorem Ghash_impl (h s : ByteArray) : EvP (fun k => impl_Ghash.f k h s) (· = GH h s) := by
  simp only [impl_Ghash.f, impl_isBlock.f, Option.bind_some]
  unfold GH
  have hz : EvP (fun k => impl_Ghash.j0 k h s true) (· = ((⟨#[]⟩, false) : ByteArray × Bool)) := by
    refine EvP.step (fun k => by rw [impl_Ghash.j0]) ?_
    exact EvP.pos rfl (EvP.some rfl)
  by_cases h1 : h.size = 16
  · refine EvP.pos (by rw [h1]; rfl) ?_
    by_cases h2 : s.size % 16 = 0
    · refine EvP.pos (by omega) ?_
      by_cases h3 : s.size ≤ 3200
      · rw [if_pos ⟨h1, h2, h3⟩, decide_eq_false (by omega)]
        refine EvP.step (fun k => by rw [impl_Ghash.j0]) ?_
        refine EvP.neg (by simp) ?_
        refine EvP.bind (polyOf_impl h1) ?_
        rintro p rfl
        simp only [impl_ghash.f]
        refine EvP.bind (ghash_l0 (vOf h) s h3 (s.size / 16) 0 zero (by omega)) ?_
        rintro r rfl
        refine EvP.bind (text_impl _) ?_
        rintro t rfl
        exact EvP.some rfl
      · rw [if_neg (fun h' => h3 h'.2.2), decide_eq_true (by omega)]
        exact hz
    · rw [if_neg (fun h' => h2 h'.2.1)]
      exact EvP.neg (by omega) hz
  · rw [if_neg (fun h' => h1 h'.1)]
    exact EvP.neg (by rw [beq_iff_eq]; omega) hz
theorem Ghash_spec (h s : ByteArray) : EvP (fun k => spec_Ghash.f k h s) (· = GH h s) := by
  simp only [spec_Ghash.f]
  unfold GH
  have hz : EvP (fun k => spec_Ghash.j0 k h s true) (· = ((⟨#[]⟩, false) : ByteArray × Bool)) := by
    refine EvP.step (fun k => by rw [spec_Ghash.j0]) ?_
    exact EvP.pos rfl (EvP.some rfl)
  by_cases h1 : h.size = 16
  · refine EvP.pos (by omega) ?_
    by_cases h2 : s.size % 16 = 0
    · refine EvP.pos (by omega) ?_
      by_cases h3 : s.size ≤ 3200
      · rw [if_pos ⟨h1, h2, h3⟩, decide_eq_false (by omega)]
        refine EvP.step (fun k => by rw [spec_Ghash.j0]) ?_
        refine EvP.neg (by simp) ?_
        simp only [spec_l5Ghash.f]
        refine EvP.bind (Q := fun r => r = (N (Gh (vOf h) s (s.size / 16) 0 zero).1, N (Gh (vOf h) s (s.size / 16) 0 zero).2)) ?_ ?_
        · refine EvP.bind (of_spec h1) ?_
          rintro p rfl
          exact l5Ghash_l0 (vOf h) s h3 (s.size / 16) 0 zero (by omega)
        · rintro r rfl
          refine EvP.bind (told_spec _) ?_
          rintro t rfl
          exact EvP.some rfl
      · rw [if_neg (fun h' => h3 h'.2.2), decide_eq_true (by omega)]
        exact hz
    · rw [if_neg (fun h' => h2 h'.2.1)]
      exact EvP.neg (by omega) hz
  · rw [if_neg (fun h' => h1 h'.1)]
    exact EvP.neg (by omega) hz
/-- Both texts xored. -/
def xs (a b : ByteArray) : ByteArray := strOfNums (List.zipWith (fun x y => Go.bits .xor .u8 x y) (B a) (B b))
theorem u8_xor_range {x y : Int} (hx : 0 ≤ x ∧ x ≤ 255) (hy : 0 ≤ y ∧ y ≤ 255) : 0 ≤ Go.bits .xor .u8 x y ∧ Go.bits .xor .u8 x y ≤ 255 := by
  obtain ⟨a, rfl⟩ := Int.eq_ofNat_of_zero_le hx.1
  obtain ⟨b, rfl⟩ := Int.eq_ofNat_of_zero_le hy.1
  rw [Go.Proofs.Ytcngjidojibleaa.G128.u8_xor a b (by omega) (by omega)]
  have ha : a < 2 ^ 8 := by omega
  have hb : b < 2 ^ 8 := by omega
  have h := Nat.xor_lt_two_pow ha hb
  generalize a ^^^ b = z at h ⊢
  omega
theorem zip_bytes : ∀ {l m : List Int}, Bytes l → Bytes m → Bytes (List.zipWith (fun x y => Go.bits .xor .u8 x y) l m)
  | [], _, _, _ => by simpa using Bytes.nil
  | _ :: _, [], _, _ => by simpa using Bytes.nil
  | x :: l, y :: m, hl, hm => by
    rw [List.zipWith_cons_cons]
    exact Bytes.cons (u8_xor_range hl.head hm.head) (zip_bytes hl.tail hm.tail)
theorem B_xs (a b : ByteArray) : B (xs a b) = List.zipWith (fun x y => Go.bits .xor .u8 x y) (B a) (B b) := B_strOfNums (zip_bytes (B_bytes a) (B_bytes b))
theorem xs_size {a b : ByteArray} (h : a.size = b.size) : (xs a b).size = a.size := by
  have := congrArg List.length (B_xs a b)
  rw [B_length, List.length_zipWith, B_length, B_length] at this
  omega
theorem xored_eq {a b : ByteArray} (h : a.size = b.size) (hs : a.size ≤ 1000000000) : laws_xored.f a b = some (xs a b) := by
  unfold laws_xored.f laws_xored.x xs
  rw [if_pos (by omega)]
theorem xored_impl {a b : ByteArray} (h : a.size = b.size) (hs : a.size ≤ 1000000000) : impl_xored.f a b = some (xs a b) := by
  unfold impl_xored.f impl_xored.x xs
  rw [if_pos (by omega)]
theorem xs_block {a b : ByteArray} (ha : a.size = 16) (hb : b.size = 16) : xs a b = tOf (xo (vOf a) (vOf b)) := by
  unfold xs
  rw [tOf_xo, tOf_vOf ha, tOf_vOf hb]
theorem xs_extract {a b : ByteArray} (h : a.size = b.size) (i : Nat) (hi : i + 16 ≤ a.size) : vOf ((xs a b).extract i (i + 16)) = xo (vOf (a.extract i (i + 16))) (vOf (b.extract i (i + 16))) := by
  have e : (xs a b).extract i (i + 16) = xs (a.extract i (i + 16)) (b.extract i (i + 16)) := by
    apply B_inj
    rw [B_xs, B_extract, B_extract, B_extract, B_xs, List.take_zipWith, List.drop_zipWith]
  rw [e, xs_block (by rw [ByteArray.size_extract]; omega) (by rw [ByteArray.size_extract]; omega), vOf_tOf]
theorem Gh_xo (h : V) {s t : ByteArray} (hst : s.size = t.size) (m : Nat) : ∀ (i : Nat) (a b : V), i + 16 * m ≤ s.size → Gh h (xs s t) m i (xo a b) = xo (Gh h s m i a) (Gh h t m i b) := by
  induction m with
  | zero => intro i a b _; rfl
  | succ m ih =>
    intro i a b hi
    rw [Gh, Gh, Gh, xs_extract hst i (by omega), xo_four, T_xo, ih (i + 16) _ _ (by omega)]
theorem GH_ok {h s : ByteArray} (h1 : h.size = 16) (h2 : s.size % 16 = 0) (h3 : s.size ≤ 3200) : GH h s = (tOf (Gh (vOf h) s (s.size / 16) 0 zero), true) := by unfold GH; rw [if_pos ⟨h1, h2, h3⟩]
theorem tail_ok {h s : ByteArray} (h1 : h.size = 16) (h2 : s.size % 16 = 0) (h3 : s.size ≤ 3200) (d : Nat) : ∀ (t : ByteArray), s.size ≤ t.size + d →
    EvP (fun k => laws_FnGhash.l0 k h s (tOf (Gh (vOf h) s (s.size / 16) 0 zero)) t) (· = true) := by
  induction d with
  | zero =>
    intro t ht
    refine EvP.step (fun k => by rw [laws_FnGhash.l0]) ?_
    refine EvP.neg (by omega) (EvP.pos (by omega) (EvP.pos (by omega) ?_))
    rw [Int.toNat_natCast]
    have hz : (t.extract 0 s.size).size = s.size := by rw [ByteArray.size_extract]; omega
    generalize t.extract 0 s.size = u at hz
    refine EvP.bind (Ghash_impl h u) ?_
    rintro a rfl
    rw [xored_eq (a := s) (b := u) hz.symm (by omega)]
    simp only [Option.bind_some]
    refine EvP.bind (Ghash_impl h _) ?_
    rintro b rfl
    have hxs := xs_size (a := s) (b := u) hz.symm
    simp only [impl_XorText.f]
    rw [if_pos (show (s.size : Int) = (u.size : Int) by omega), xored_impl (a := s) (b := u) hz.symm (by omega)]
    simp only [Option.bind_some]
    rw [GH_ok h1 (by omega) (by omega), GH_ok h1 (by omega) (by omega)]
    refine EvP.pos (by first | rfl | trivial) (EvP.pos (by first | rfl | trivial) (EvP.pos (by first | rfl | trivial) ?_))
    rw [xored_eq (by rw [tOf_size, tOf_size]) (by rw [tOf_size]; omega)]
    simp only [Option.bind_some]
    rw [xs_block (tOf_size _) (tOf_size _), vOf_tOf, vOf_tOf, hxs, hz]
    have e := Gh_xo (vOf h) (s := s) (t := u) hz.symm (s.size / 16) 0 zero zero (by omega)
    rw [xo_zero] at e
    rw [e]
    exact EvP.pos (by first | rfl | trivial) (EvP.some (by simp))
  | succ d ih =>
    intro t ht
    by_cases hlt : t.size < s.size
    · refine EvP.step (fun k => by rw [laws_FnGhash.l0]) ?_
      refine EvP.pos (by omega) (EvP.pos (by omega) ?_)
      exact ih _ (by rw [ByteArray.size_append]; show s.size ≤ t.size + 1 + d; omega)
    · exact (ih t (by omega))
theorem FnGhash : laws_FnGhash.Pure := by
  intro l0 l1 _ _ hw0 _ _ hw1
  have hl0 := bytes_of_wf hw0
  have hl1 := bytes_of_wf hw1
  refine EvP.rounds ?_
  simp only [laws_FnGhash.f]
  refine EvP.ite (fun _ => EvP.some rfl) (fun _ => ?_)
  refine EvP.bind (draw_ok hl0) ?_
  intro d _
  generalize d.1 = h
  generalize d.2 = s
  refine EvP.bind (Ghash_impl h s) ?_
  rintro p rfl
  refine EvP.bind (Ghash_spec h s) ?_
  rintro p rfl
  refine EvP.neg (by simp) ?_
  rw [show ((GH h s).1.toList != (GH h s).1.toList) = false by simp]
  refine EvP.step (fun k => by rw [laws_FnGhash.j0]) ?_
  refine EvP.neg (by simp) ?_
  by_cases hc : h.size = 16 ∧ s.size % 16 = 0 ∧ s.size ≤ 3200
  · obtain ⟨h1, h2, h3⟩ := hc
    rw [GH_ok h1 h2 h3]
    refine EvP.pos rfl ?_
    refine EvP.bind (draw_ok hl1) ?_
    intro e _
    exact tail_ok h1 h2 h3 s.size e.2 (by omega)
  · have em : GH h s = (⟨#[]⟩, false) := by unfold GH; rw [if_neg hc]
    rw [em]
    exact EvP.neg (by simp) (EvP.some (by rw [toList_nil]; rfl))
end Go.Proofs.Ytcngjidojibleaa.Pure
