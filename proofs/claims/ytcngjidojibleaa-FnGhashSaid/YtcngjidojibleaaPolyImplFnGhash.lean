/- The program's polynomials: read, multiplied, written. -/
import Derived.Test.YtcngjidojibleaaGfLink
import Derived.Test.YtcngjidojibleaaNumImplFnGhash
import Derived.Test.YtcngjidojibleaaBeImplFnGhash
set_option linter.unusedVariables false
set_option linter.unusedSimpArgs false
namespace Go.Proofs.Ytcngjidojibleaa.CFnGhash
open Go.RowKit Go.Proofs.Ytcngjidojibleaa.B Go.Proofs.Ytcngjidojibleaa.G128 Go.Proofs.Ytcngjidojibleaa.PFnGhash Go.Proofs.YtcngjidojibleaaW.PrintWords Go.Proofs.YtcngjidojibleaaW.PrintLast Go.Proofs.YtcngjidojibleaaW.PrintMore

theorem byX_impl (v : V) : impl_poly_byX.f (N v.1) (N v.2) = some (N (X v).1, N (X v).2) := by
  unfold impl_poly_byX.f X
  simp only [half_N, top_N, or_N]
  by_cases h : v.2.getLsbD 0 = true
  · rw [if_pos ((low_N v.2).2 h), if_pos h, R_N, xor_N]
  · rw [if_neg (fun h' => h ((low_N v.2).1 h')), if_neg h, show (v.1 >>> 1) ^^^ (0 : BitVec 64) = v.1 >>> 1 from BitVec.xor_zero]
theorem pxor_impl (v w : V) : impl_poly_xor.f (N v.1) (N v.2) (N w.1) (N w.2) = some (N (xo v w).1, N (xo v w).2) := by
  unfold impl_poly_xor.f xo
  rw [xor_N, xor_N]
theorem times_j1 (q : V) (j : Nat) (p acc : V) (i : Nat) (hi : i + j + 1 = 128)
    (ih : ∀ (p acc : V), EvP (fun k => impl_poly_times.l0 k ((i : Int) + 1) (N p.1) (N p.2) (N q.1) (N q.2) (N acc.1) (N acc.2)) (· = (N (run q j (i + 1) p acc).1, N (run q j (i + 1) p acc).2)))
    (x : Int) (hx : Go.bits .and .u64 x 1 = 1 ↔ bit q i = true) :
    EvP (fun k => impl_poly_times.j1 k x (i : Int) (N p.1) (N p.2) (N q.1) (N q.2) (N acc.1) (N acc.2)) (· = (N (run q (j + 1) i p acc).1, N (run q (j + 1) i p acc).2)) := by
  refine EvP.step (fun k => by rw [impl_poly_times.j1]) ?_
  rw [w64 (n := (i : Int) + 1) (by omega) (by omega)]
  simp only [pxor_impl, byX_impl, Option.bind_some]
  rw [run]
  by_cases h : bit q i = true
  · rw [if_pos h]
    exact EvP.pos (hx.2 h) (ih _ _)
  · rw [if_neg h]
    exact EvP.neg (fun h' => h (hx.1 h')) (ih _ _)
theorem times_l0 (q : V) (j : Nat) : ∀ (i : Nat) (p acc : V), i + j = 128 →
    EvP (fun k => impl_poly_times.l0 k (i : Int) (N p.1) (N p.2) (N q.1) (N q.2) (N acc.1) (N acc.2)) (· = (N (run q j i p acc).1, N (run q j i p acc).2)) := by
  induction j with
  | zero =>
    intro i p acc hi
    refine EvP.step (fun k => by rw [impl_poly_times.l0]) ?_
    exact EvP.neg (by omega) (EvP.some rfl)
  | succ j ih =>
    intro i p acc hi
    have ih2 := fun p acc => ih (i + 1) p acc (by omega)
    refine EvP.step (fun k => by rw [impl_poly_times.l0]) ?_
    rw [Int.tmod_eq_emod_of_nonneg (by omega), w64 (n := 63 - (i : Int) % 64) (by omega) (by omega)]
    refine EvP.pos (by omega) (EvP.pos (by omega) ?_)
    by_cases h : i < 64
    · refine EvP.neg (by omega) (times_j1 q j p acc i (by omega) ih2 _ ?_)
      rw [show 63 - (i : Int) % 64 = ((63 - i : Nat) : Int) by omega, shr_N _ _ (by omega), bit, if_pos h]
    · refine EvP.pos (by omega) (times_j1 q j p acc i (by omega) ih2 _ ?_)
      rw [show 63 - (i : Int) % 64 = ((127 - i : Nat) : Int) by omega, shr_N _ _ (by omega), bit, if_neg h]
theorem times_impl (p q : V) : EvP (fun k => impl_poly_times.f k (N p.1) (N p.2) (N q.1) (N q.2)) (· = (N (T q p).1, N (T q p).2)) := by
  simp only [impl_poly_times.f]
  have := times_l0 q 128 0 p zero (by omega)
  rw [run_T] at this
  exact this
theorem polyOf_impl {s : ByteArray} (h : s.size = 16) : EvP (fun k => impl_polyOf.f k s) (· = (N (vOf s).1, N (vOf s).2)) := by
  simp only [impl_polyOf.f]
  have hb := B_bytes s
  have hl := B_length s
  refine EvP.pos (by omega) (EvP.pos (by omega) ?_)
  refine EvP.bind (number_ok _ (by rw [ByteArray.size_extract]; omega)) ?_
  rintro t rfl
  refine EvP.bind (number_ok _ (by rw [ByteArray.size_extract]; omega)) ?_
  rintro t rfl
  refine EvP.some ?_
  rw [B_extract, B_extract, List.drop_zero, List.take_of_length_le (l := B s) (i := s.size) (by omega)]
  unfold vOf
  rw [N_ofInt (val8 _ (hb.take 8) (by rw [List.length_take]; omega)), N_ofInt (val8 _ (hb.drop 8) (by rw [List.length_drop]; omega))]
theorem text_impl (v : V) : EvP (fun k => impl_poly_text.f k (N v.1) (N v.2)) (· = tOf v) := by
  simp only [impl_poly_text.f]
  refine EvP.bind (bigEndian_ok _ 8 (N_range _).1 (by decide)) ?_
  rintro a rfl
  refine EvP.bind (bigEndian_ok _ 8 (N_range _).1 (by decide)) ?_
  rintro b rfl
  exact EvP.pos (by rw [strOfNums_size, strOfNums_size, BE_length, BE_length]; decide) (EvP.some rfl)
end Go.Proofs.Ytcngjidojibleaa.CFnGhash
