/- The program's products of blocks. -/
import Derived.Test.YtcggngmcaicdpabGfLink
import Derived.Test.YtcggngmcaicdpabNumImplFnBlocks
import Derived.Test.YtcggngmcaicdpabBeImplFnBlocks
set_option linter.unusedVariables false
set_option linter.unusedSimpArgs false
namespace Go.Proofs.Ytcggngmcaicdpab.CFnBlocks
open Go.RowKit Go.Proofs.Ytcggngmcaicdpab.B Go.Proofs.Ytcggngmcaicdpab.G128 Go.Proofs.Ytcggngmcaicdpab.PFnBlocks Go.Proofs.YtcggngmcaicdpabW.PrintWords Go.Proofs.YtcggngmcaicdpabW.PrintLast Go.Proofs.YtcggngmcaicdpabW.PrintMore

theorem byX_impl (v : V) : impl_poly_byX.f (N v.1) (N v.2) = some (N (X v).1, N (X v).2) := by
  unfold impl_poly_byX.f X
  simp only [half_N, top_N, or_N]
  by_cases h : v.2.getLsbD 0 = true
  · rw [if_pos ((low_N v.2).2 h), if_pos h, R_N, xor_N]
  · rw [if_neg (fun h' => h ((low_N v.2).1 h')), if_neg h, show (v.1 >>> 1) ^^^ (0 : BitVec 64) = v.1 >>> 1 from BitVec.xor_zero]
theorem pxor_impl (v w : V) : impl_poly_xor.f (N v.1) (N v.2) (N w.1) (N w.2) = some (N (xo v w).1, N (xo v w).2) := by
  unfold impl_poly_xor.f xo
  rw [xor_N, xor_N]
theorem times_j1 (q : V) (j : Nat) (p acc : V) (i : Nat) (hi : i + j + 1 = 128)
    (ih : ∀ (p acc : V), EvP (fun k => impl_poly_times.l0 k ((i : Int) + 1) (N p.1) (N p.2) (N q.1) (N q.2) (N acc.1) (N acc.2)) (· = (N (run q j (i + 1) p acc).1, N (run q j (i + 1) p acc).2)))
    (x : Int) (hx : Go.bits .and .u64 x 1 = 1 ↔ bit q i = true) :
    EvP (fun k => impl_poly_times.j1 k x (i : Int) (N p.1) (N p.2) (N q.1) (N q.2) (N acc.1) (N acc.2)) (· = (N (run q (j + 1) i p acc).1, N (run q (j + 1) i p acc).2)) := by
  refine EvP.step (fun k => by rw [impl_poly_times.j1]) ?_
  rw [w64 (n := (i : Int) + 1) (by omega) (by omega)]
  simp only [pxor_impl, byX_impl, Option.bind_some]
  rw [run]
  by_cases h : bit q i = true
  · rw [if_pos h]
    exact EvP.pos (hx.2 h) (ih _ _)
  · rw [if_neg h]
    exact EvP.neg (fun h' => h (hx.1 h')) (ih _ _)
theorem times_l0 (q : V) (j : Nat) : ∀ (i : Nat) (p acc : V), i + j = 128 →
    EvP (fun k => impl_poly_times.l0 k (i : Int) (N p.1) (N p.2) (N q.1) (N q.2) (N acc.1) (N acc.2)) (· = (N (run q j i p acc).1, N (run q j i p acc).2)) := by
  induction j with
  | zero =>
    intro i p acc hi
    refine EvP.step (fun k => by rw [impl_poly_times.l0]) ?_
    exact EvP.neg (by omega) (EvP.some rfl)
  | succ j ih =>
    intro i p acc hi
    have ih2 := fun p acc => ih (i + 1) p acc (by omega)
    refine EvP.step (fun k => by rw [impl_poly_times.l0]) ?_
    rw [Int.tmod_eq_emod_of_nonneg (by omega), w64 (n := 63 - (i : Int) % 64) (by omega) (by omega)]
    refine EvP.pos (by omega) (EvP.pos (by omega) ?_)
    by_cases h : i < 64
    · refine EvP.neg (by omega) (times_j1 q j p acc i (by omega) ih2 _ ?_)
      rw [show 63 - (i : Int) % 64 = ((63 - i : Nat) : Int) by omega, shr_N _ _ (by omega), bit, if_pos h]
    · refine EvP.pos (by omega) (times_j1 q j p acc i (by omega) ih2 _ ?_)
      rw [show 63 - (i : Int) % 64 = ((127 - i : Nat) : Int) by omega, shr_N _ _ (by omega), bit, if_neg h]
theorem times_impl (p q : V) : EvP (fun k => impl_poly_times.f k (N p.1) (N p.2) (N q.1) (N q.2)) (· = (N (T q p).1, N (T q p).2)) := by
  simp only [impl_poly_times.f]
  have := times_l0 q 128 0 p zero (by omega)
  rw [run_T] at this
  exact this
theorem polyOf_impl {s : ByteArray} (h : s.size = 16) : EvP (fun k => impl_polyOf.f k s) (· = (N (vOf s).1, N (vOf s).2)) := by
  simp only [impl_polyOf.f]
  have hb := B_bytes s
  have hl := B_length s
  refine EvP.pos (by omega) (EvP.pos (by omega) ?_)
  refine EvP.bind (number_ok _ (by rw [ByteArray.size_extract]; omega)) ?_
  rintro t rfl
  refine EvP.bind (number_ok _ (by rw [ByteArray.size_extract]; omega)) ?_
  rintro t rfl
  refine EvP.some ?_
  rw [B_extract, B_extract, List.drop_zero, List.take_of_length_le (l := B s) (i := s.size) (by omega)]
  unfold vOf
  rw [N_ofInt (val8 _ (hb.take 8) (by rw [List.length_take]; omega)), N_ofInt (val8 _ (hb.drop 8) (by rw [List.length_drop]; omega))]
theorem text_impl (v : V) : EvP (fun k => impl_poly_text.f k (N v.1) (N v.2)) (· = tOf v) := by
  simp only [impl_poly_text.f]
  refine EvP.bind (bigEndian_ok _ 8 (N_range _).1 (by decide)) ?_
  rintro a rfl
  refine EvP.bind (bigEndian_ok _ 8 (N_range _).1 (by decide)) ?_
  rintro b rfl
  exact EvP.pos (by rw [strOfNums_size, strOfNums_size, BE_length, BE_length]; decide) (EvP.some rfl)
/-- What both packages make of two texts. -/
def MB (a b : ByteArray) : ByteArray × Bool := if a.size = 16 ∧ b.size = 16 then (tOf (T (vOf b) (vOf a)), true) else (⟨#[]⟩, false)
theorem MulBlock_impl (a b : ByteArray) : EvP (fun k => impl_MulBlock.f k a b) (· = MB a b) := by
  simp only [impl_MulBlock.f, impl_isBlock.f, Option.bind_some]
  unfold MB
  have hz : EvP (fun k => impl_MulBlock.j0 k a b true) (· = ((⟨#[]⟩, false) : ByteArray × Bool)) := by
    refine EvP.step (fun k => by rw [impl_MulBlock.j0]) ?_
    exact EvP.pos rfl (EvP.some rfl)
  by_cases h1 : a.size = 16
  · refine EvP.pos (by rw [h1]; rfl) ?_
    by_cases h2 : b.size = 16
    · rw [if_pos ⟨h1, h2⟩, show (!((b.size : Int) == 16)) = false by rw [h2]; rfl]
      refine EvP.step (fun k => by rw [impl_MulBlock.j0]) ?_
      refine EvP.neg (by simp) ?_
      refine EvP.bind (polyOf_impl h1) ?_
      rintro p rfl
      refine EvP.bind (polyOf_impl h2) ?_
      rintro q rfl
      refine EvP.bind (times_impl _ _) ?_
      rintro r rfl
      refine EvP.bind (text_impl _) ?_
      rintro t rfl
      exact EvP.some rfl
    · rw [if_neg (fun h => h2 h.2), show (!((b.size : Int) == 16)) = true by rw [Bool.not_eq_true', beq_eq_false_iff_ne]; omega]
      exact hz
  · rw [if_neg (fun h => h1 h.1)]
    exact EvP.neg (by rw [beq_iff_eq]; omega) hz
end Go.Proofs.Ytcggngmcaicdpab.CFnBlocks
