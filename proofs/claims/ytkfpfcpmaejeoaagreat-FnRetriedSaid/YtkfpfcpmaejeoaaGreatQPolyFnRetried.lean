/- The program's polynomials: read, multiplied, written; the hash of a text. -/
import Derived.Test.YtkfpfcpmaejeoaaGreatQGLink
import Derived.Test.YtkfpfcpmaejeoaaGreatQNumImplFnRetried
import Derived.Test.YtkfpfcpmaejeoaaGreatQBeImplFnRetried
set_option linter.unusedVariables false
set_option linter.unusedSimpArgs false
namespace Go.Proofs.YtkfpfcpmaejeoaaGreat.CFnRetried
open Go Go.Proofs Go.Proofs.YtkfpfcpmaejeoaaGreatPM Go.Proofs.YtkfpfcpmaejeoaaGreat.Q Go.Proofs.YtkfpfcpmaejeoaaGreat.G128 Go.Proofs.YtkfpfcpmaejeoaaGreat.GFnRetried

theorem byX_impl (v : V) : EvP (fun k => impl_poly_byX k (N v.1) (N v.2)) (· = (((N (X v).1, (N (X v).2, ())), ()), ())) := by
  refine EvP.of (fun k => impl_poly_byX.eq k _ _) ?_
  simp only [half_N, top_N, or_N]
  unfold X
  by_cases h : v.2.getLsbD 0 = true
  · exact EvP.pos ((low_N v.2).2 h) (EvP.some (by rw [if_pos h, R_N, xor_N]))
  · exact EvP.neg (fun h' => h ((low_N v.2).1 h')) (EvP.some (by rw [if_neg h, show (v.1 >>> 1) ^^^ (0 : BitVec 64) = v.1 >>> 1 from BitVec.xor_zero]))
theorem pxor_impl (v w : V) : EvP (fun k => impl_poly_xor k (N v.1) (N v.2) (N w.1) (N w.2)) (· = (((N (xo v w).1, (N (xo v w).2, ())), ()), ())) :=
  EvP.of (fun k => impl_poly_xor.eq k _ _ _ _) (EvP.some (by unfold xo; rw [xor_N, xor_N]))
theorem times_l0 (q z : V) (j : Nat) : ∀ (i : Nat) (p acc : V), i + j = 128 →
    EvP (fun k => impl_poly_times.l0 k (i : Int) (N p.1) (N p.2) (N q.1) (N q.2) (N z.1) (N z.2) (N acc.1) (N acc.2)) (fun r => r.2.2.2.2.1.1 = N (run q j i p acc).1 ∧ r.2.2.2.2.1.2.1 = N (run q j i p acc).2) := by
  induction j with
  | zero =>
    intro i p acc hi
    exact EvP.step (fun k => impl_poly_times.l0.eq k _ _ _ _ _ _ _ _ _) (EvP.neg (by omega) (EvP.some ⟨rfl, rfl⟩))
  | succ j ih =>
    intro i p acc hi
    refine EvP.step (fun k => impl_poly_times.l0.eq k _ _ _ _ _ _ _ _ _) ?_
    rw [Int.tmod_eq_emod_of_nonneg (by omega), i64w (n := 63 - (i : Int) % 64) (by omega) (by omega), i64w (n := (i : Int) + 1) (by omega) (by omega), show (i : Int) + 1 = ((i + 1 : Nat) : Int) by omega]
    refine EvP.pos (by omega) (EvP.chk1 (by omega) ?_)
    refine EvP.andK (Q := fun r => (Go.bits .and .u64 r.1.2.2.2.2.1 1 = 1 ↔ bit q i = true) ∧ r.2 = ((N p.1, (N p.2, ())), ((N q.1, (N q.2, ())), ((N z.1, (N z.2, ())), ((N acc.1, (N acc.2, ())), ()))))) ?_ ?_
    · by_cases h : i < 64
      · refine EvP.neg (by omega) (EvP.some ⟨?_, rfl⟩)
        dsimp only
        rw [show 63 - (i : Int) % 64 = ((63 - i : Nat) : Int) by omega, bit_N _ (by omega), bit, if_pos h]
      · refine EvP.pos (by omega) (EvP.chk1 (by omega) (EvP.some ⟨?_, rfl⟩))
        dsimp only
        rw [show 63 - (i : Int) % 64 = ((127 - i : Nat) : Int) by omega, bit_N _ (by omega), bit, if_neg h]
    · rintro ⟨⟨a, b, c, d, x, ⟨⟩⟩, t⟩ ⟨hx, rfl⟩
      dsimp only at hx ⊢
      rw [run]
      refine EvP.to (a := (((), ((), ((), ((), ())))), ((N p.1, (N p.2, ())), ((N q.1, (N q.2, ())), ((N z.1, (N z.2, ())), ((N (if bit q i = true then xo acc p else acc).1, (N (if bit q i = true then xo acc p else acc).2, ())), ())))))) ?_ (EvP.to (byX_impl p) ?_)
      · by_cases h : bit q i = true
        · rw [if_pos h]
          exact EvP.pos (hx.2 h) (EvP.to (pxor_impl _ _) (EvP.some rfl))
        · rw [if_neg h]
          exact EvP.neg (fun h' => h (hx.1 h')) (EvP.some rfl)
      · exact ih (i + 1) (X p) _ (by omega)
theorem times_impl (p q : V) : EvP (fun k => impl_poly_times k (N p.1) (N p.2) (N q.1) (N q.2)) (· = (((N (T q p).1, (N (T q p).2, ())), ()), ())) := by
  refine EvP.of (fun k => impl_poly_times.eq k _ _ _ _) (EvP.andK (times_l0 q zero 128 0 p zero (by omega)) ?_)
  rintro r ⟨h1, h2⟩
  rw [run_T] at h1 h2
  exact EvP.some (by rw [h1, h2])
theorem polyOf_impl {s : ByteArray} (h : s.size = 16) : EvP (fun k => impl_polyOf k s) (· = (((N (vOf s).1, (N (vOf s).2, ())), ()), ())) := by
  have e1 : (s.extract 0 8).size = 8 := by rw [extract_size (by omega)]
  have e2 : (s.extract 8 16).size = 8 := by rw [extract_size (by omega)]
  refine EvP.of (fun k => impl_polyOf.eq k _) (EvP.chk1 (by omega) (EvP.to (number_ok _ (by omega)) (EvP.chk2 (by omega) (by omega) ?_)))
  rw [h, show Int.toNat ((16 : Nat) : Int) = 16 from rfl]
  refine EvP.to (number_ok _ (by omega)) (EvP.some ?_)
  unfold vOf
  rw [N_ofInt (val8 e1), N_ofInt (val8 e2)]
theorem text_impl (v : V) : EvP (fun k => impl_poly_text k (N v.1) (N v.2)) (· = ((tOf v, ()), ())) :=
  EvP.of (fun k => impl_poly_text.eq k _ _) (EvP.to (bigEndian_ok _ 8 (N_range _).1 (by decide)) (EvP.to (bigEndian_ok _ 8 (N_range _).1 (by decide)) (EvP.chk1 (by (try dsimp only); rw [be_size, be_size]; decide) (EvP.some rfl))))
theorem ghash_l0 (h y : V) (s : ByteArray) (hs : s.size ≤ 1000000) (m : Nat) : ∀ (i : Nat) (acc : V), i + 16 * m = s.size →
    EvP (fun k => impl_ghash.l0 k s (i : Int) (N h.1) (N h.2) (N y.1) (N y.2) (N acc.1) (N acc.2)) (fun r => r.2.2.2.1.1 = N (Gh h s m i acc).1 ∧ r.2.2.2.1.2.1 = N (Gh h s m i acc).2) := by
  induction m with
  | zero =>
    intro i acc hi
    exact EvP.step (fun k => impl_ghash.l0.eq k _ _ _ _ _ _ _ _) (EvP.neg (by omega) (EvP.some ⟨rfl, rfl⟩))
  | succ m ih =>
    intro i acc hi
    refine EvP.step (fun k => impl_ghash.l0.eq k _ _ _ _ _ _ _ _) (EvP.pos (by omega) ?_)
    rw [i64w (n := (i : Int) + 16) (by omega) (by omega)]
    refine EvP.chk3 (by omega) (by omega) (by omega) ?_
    rw [show (i : Int) + 16 = ((i + 16 : Nat) : Int) by omega, Int.toNat_natCast, Int.toNat_natCast]
    exact EvP.to (polyOf_impl (by rw [extract_size (by omega)]; omega)) (EvP.to (pxor_impl _ _) (EvP.to (times_impl _ _) (ih (i + 16) _ (by omega))))
theorem ghash_impl (h : V) {s : ByteArray} (hs : s.size ≤ 1000000) (h16 : s.size % 16 = 0) : EvP (fun k => impl_ghash k (N h.1) (N h.2) s) (· = (((N (Gh h s (s.size / 16) 0 zero).1, (N (Gh h s (s.size / 16) 0 zero).2, ())), ()), ())) := by
  refine EvP.of (fun k => impl_ghash.eq k _ _ _) (EvP.andK (ghash_l0 h zero s hs (s.size / 16) 0 zero (by omega)) ?_)
  rintro r ⟨h1, h2⟩
  exact EvP.some (by rw [h1, h2])
end Go.Proofs.YtkfpfcpmaejeoaaGreat.CFnRetried
