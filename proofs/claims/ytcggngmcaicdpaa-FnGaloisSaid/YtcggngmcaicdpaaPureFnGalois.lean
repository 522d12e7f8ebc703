/- FnGalois: whatever is drawn, products of bytes do not hang on order and brackets, go with xor, a byte that is not 0 has an inverse, and both packages tell the same. -/
import Derived.Test.YtcggngmcaicdpaaMulFnGalois
import Derived.Test.YtcggngmcaicdpaaCurFnGalois
set_option linter.unusedVariables false
set_option linter.unusedSimpArgs false
namespace Go.Proofs.Ytcggngmcaicdpaa.Pure
open Go.RowKit Go.Proofs.Ytcggngmcaicdpaa.B Go.Proofs.Ytcggngmcaicdpaa.CFnGalois Go.Proofs.Ytcggngmcaicdpaa.PFnGalois Go.Proofs.YtcggngmcaicdpaaW.PrintWords Go.Proofs.YtcggngmcaicdpaaW.PrintLast Go.Proofs.YtcggngmcaicdpaaW.PrintMore

theorem wide_l0 {l : List Int} (hl : Bytes l) (d : Nat) : ∀ (x3 x4 a s : Int), x4 + d = 8 → 0 ≤ x4 → 0 ≤ a → a + d ≤ 4611686018427380000 →
    EvP (fun k => spec_l1Cur_wide.l0 k x3 x4 l a s) (fun r => a ≤ r.2.1 ∧ r.2.1 ≤ a + d) := by
  induction d with
  | zero =>
    intro x3 x4 a s hx hx0 h0 h1
    refine EvP.step (fun k => by rw [spec_l1Cur_wide.l0]) ?_
    exact EvP.neg (by omega) (EvP.some ⟨by simp, by simp⟩)
  | succ d ih =>
    intro x3 x4 a s hx hx0 h0 h1
    refine EvP.step (fun k => by rw [spec_l1Cur_wide.l0]) ?_
    refine EvP.pos (by omega) (EvP.bind0 (next_ok hl a s h0 (by omega)) ?_)
    intro p hp
    rw [w64 (n := x4 + 1) (by omega) (by omega)]
    refine (ih _ _ _ _ (by omega) (by omega) (by omega) (by omega)).mono ?_
    intro r hr
    exact ⟨by omega, by omega⟩
theorem wide_ok {l : List Int} (hl : Bytes l) (a s : Int) (h0 : 0 ≤ a) (h1 : a ≤ 4611686018427370000) :
    EvP (fun k => spec_l1Cur_wide.f k l a s) (fun r => a ≤ r.2.1 ∧ r.2.1 ≤ a + 8) := by
  simp only [spec_l1Cur_wide.f]
  exact wide_l0 hl 8 0 0 a s (by omega) (by omega) h0 (by omega)
theorem sized_ok {l : List Int} (hl : Bytes l) (a s : Int) (h0 : 0 ≤ a) (h1 : a ≤ 4611686018427360000) :
    EvP (fun k => spec_l1Cur_sized.f k l a s) (fun r => a ≤ r.2.1 ∧ r.2.1 ≤ a + 20) := by
  simp only [spec_l1Cur_sized.f]
  refine EvP.bind0 (pick_ok hl a s 5 h0 (by omega)) ?_
  intro p hp
  refine EvP.bind0 (pick_ok hl _ _ 8 (by omega) (by omega)) ?_
  intro q hq
  have fin : ∀ (c x : Int) (n : Int → Int) (m : Int), a ≤ c → c ≤ a + 15 → EvP (fun _ => (spec_l1Cur_one.f l c x 3).bind fun b => if b.1 = true then some (n m, b.2.1, b.2.2) else some (m, b.2.1, b.2.2)) (fun r : Int × Int × Int => a ≤ r.2.1 ∧ r.2.1 ≤ a + 20) := by
    intro c x n m hc1 hc2
    refine EvP.bind0 (one_ok hl _ _ 3 (by omega) (by omega)) ?_
    intro b hb
    exact EvP.ite (fun _ => EvP.some ⟨by dsimp only; omega, by dsimp only; omega⟩) (fun _ => EvP.some ⟨by dsimp only; omega, by dsimp only; omega⟩)
  refine EvP.ite (fun _ => ?_) (fun _ => EvP.ite (fun _ => ?_) (fun _ => EvP.ite (fun _ => ?_) (fun _ => EvP.ite (fun _ => ?_) (fun _ => ?_))))
  · refine EvP.bind0 (pick_ok hl _ _ 300 (by omega) (by omega)) ?_
    intro u hu
    exact fin _ _ (fun m => wrap64 (-m)) _ (by omega) (by omega)
  · refine EvP.bind (wide_ok hl _ _ (by omega) (by omega)) ?_
    intro u hu
    refine EvP.bind0 (pick_ok hl _ _ 64 (by omega) (by omega)) ?_
    intro v hv
    refine EvP.pos (by rw [u64w]; omega) ?_
    exact fin _ _ (fun m => wrap64 (-m)) _ (by omega) (by omega)
  · refine EvP.bind0 (pick_ok hl _ _ 64 (by omega) (by omega)) ?_
    intro v hv
    refine EvP.pos (by rw [u64w]; omega) ?_
    exact fin _ _ (fun m => wrap64 (-m)) _ (by omega) (by omega)
  · refine EvP.bind0 (pick_ok hl _ _ 64 (by omega) (by omega)) ?_
    intro v hv
    refine EvP.pos (by rw [u64w]; omega) ?_
    exact fin _ _ (fun m => wrap64 (-m)) _ (by omega) (by omega)
  · exact fin _ _ (fun m => wrap64 (-m)) _ (by omega) (by omega)
theorem draw_ok {l : List Int} (hl : Bytes l) : EvP (fun k => spec_DrawMulGf.f k l) (fun _ => True) := by
  simp only [spec_DrawMulGf.f]
  refine EvP.bind0 (one_ok hl 0 0 8 (by omega) (by omega)) ?_
  intro p hp
  refine EvP.ite (fun _ => ?_) (fun _ => ?_)
  · refine EvP.bind (sized_ok hl _ _ (by omega) (by omega)) ?_
    intro q hq
    refine EvP.bind (sized_ok hl _ _ (by omega) (by omega)) ?_
    intro r hr
    exact EvP.some trivial
  · refine EvP.bind0 (pick_ok hl _ _ 256 (by omega) (by omega)) ?_
    intro q hq
    refine EvP.bind0 (pick_ok hl _ _ 256 (by omega) (by omega)) ?_
    intro r hr
    exact EvP.some trivial

/-- The byte of a whole number. -/
def by8 (a : Int) : Nat := (a % 256).toNat
theorem by8_lt (a : Int) : by8 a < 256 := by unfold by8; omega
theorem by8_eq (a : Int) : a % 256 = (by8 a : Int) := by unfold by8; omega
theorem by8_nat {n : Nat} (h : n < 256) : by8 (n : Int) = n := by unfold by8; omega
theorem Mul_impl (a b : Int) : EvP (fun k => impl_MulGf.f k a b) (· = (gf (by8 a) (by8 b) : Int)) := by
  simp only [impl_MulGf.f]
  rw [by8_eq a, by8_eq b]
  refine EvP.bind (mulGf_impl (by8_lt a) (by8_lt b)) ?_
  rintro r rfl
  have := gf_lt (b := by8 b) (by8_lt a)
  exact EvP.some (w64 (by omega) (by omega))
theorem Mul_spec (a b : Int) : EvP (fun k => spec_MulGf.f k a b) (· = (gf (by8 a) (by8 b) : Int)) := by
  simp only [spec_MulGf.f]
  rw [by8_eq a, by8_eq b]
  refine EvP.bind (mulGf_spec (by8_lt a) (by8_lt b)) ?_
  rintro r rfl
  have := gf_lt (b := by8 b) (by8_lt a)
  exact EvP.some (w64 (by omega) (by omega))
theorem Inv_impl (a : Int) : EvP (fun k => impl_InverseGf.f k a) (· = (ginv (by8 a) : Int)) := by
  simp only [impl_InverseGf.f]
  rw [by8_eq a]
  refine EvP.bind (inverseGf_impl (by8_lt a)) ?_
  rintro r rfl
  have := ginv_lt (by8_lt a)
  exact EvP.some (w64 (by omega) (by omega))
theorem Inv_spec (a : Int) : EvP (fun k => spec_InverseGf.f k a) (· = (ginv (by8 a) : Int)) := by
  simp only [spec_InverseGf.f]
  rw [by8_eq a]
  refine EvP.bind (inverse_spec (by8_lt a)) ?_
  rintro r rfl
  have := ginv_lt (by8_lt a)
  exact EvP.some (w64 (by omega) (by omega))
theorem by8_xor (b c : Int) : by8 (Go.bits .xor .i64 b c) = by8 b ^^^ by8 c := by
  have e : ∀ x : Int, (BitVec.ofInt 64 x).toNat % 256 = by8 x := by
    intro x
    unfold by8
    rw [BitVec.toNat_ofInt]
    simp only [Nat.reducePow]
    omega
  have h : (BitVec.ofInt 64 b ^^^ BitVec.ofInt 64 c).toNat % 256 = by8 b ^^^ by8 c := by
    rw [BitVec.toNat_xor, show (256 : Nat) = 2 ^ 8 by rfl, Nat.xor_mod_two_pow]
    simp only [Nat.reducePow]
    rw [e, e]
  rw [← h]
  unfold by8
  show ((IntKind.i64.wrap ((BitVec.ofInt 64 b ^^^ BitVec.ofInt 64 c).toNat : Int)) % 256).toNat = _
  rw [IntKind.wrap_i64]
  omega
theorem xor_i64 {a b : Nat} (ha : a < 256) (hb : b < 256) : Go.bits .xor .i64 (a : Int) (b : Int) = ((a ^^^ b : Nat) : Int) :=
  bits_xor_nat .i64 63 (by decide) wraps_i64 a b (by omega) (by omega)

theorem j1_ok (a : Int) : EvP (fun k => laws_FnGalois.j1 k a (ginv (by8 a) : Int) false) (· = true) := by
  refine EvP.step (fun k => by rw [laws_FnGalois.j1]) ?_
  refine EvP.neg (by simp) ?_
  refine EvP.bind (Mul_impl _ _) ?_
  rintro r rfl
  refine EvP.bind (Mul_impl _ _) ?_
  rintro r rfl
  refine EvP.some ?_
  rw [by8_nat (ginv_lt (by8_lt a)), show by8 1 = 1 by decide, gf_pow0]
  have h := ginv_one (by8_lt a)
  by_cases h0 : by8 a = 0
  · rw [h0, gf_zero_left]; rfl
  · rw [h.2 h0]
    have : ((by8 a : Int) != 0) = true := by simp; omega
    rw [this]; rfl
theorem j0_ok (a b c : Int) : EvP (fun k => laws_FnGalois.j0 k a b c (gf (by8 a) (by8 b) : Int) (ginv (by8 a) : Int) false) (· = true) := by
  refine EvP.step (fun k => by rw [laws_FnGalois.j0]) ?_
  refine EvP.neg (by simp) ?_
  have ha := by8_lt a; have hb := by8_lt b; have hc := by8_lt c
  refine EvP.bind (Mul_impl _ _) ?_
  rintro r rfl
  refine EvP.bind (Mul_impl _ _) ?_
  rintro r rfl
  refine EvP.bind (Mul_impl _ _) ?_
  rintro r rfl
  rw [by8_nat (gf_lt ha), by8_nat (gf_lt hb)]
  refine EvP.pos (by rw [gf_assoc ha hb hc]) ?_
  refine EvP.bind (Mul_impl _ _) ?_
  rintro r rfl
  refine EvP.bind (Mul_impl _ _) ?_
  rintro r rfl
  rw [by8_xor, xor_i64 (gf_lt ha) (gf_lt ha), gf_right]
  rw [show (((gf (by8 a) (by8 b) ^^^ gf (by8 a) (by8 c) : Nat) : Int) != ((gf (by8 a) (by8 b) ^^^ gf (by8 a) (by8 c) : Nat) : Int)) = false by simp]
  exact j1_ok a
theorem FnGalois : laws_FnGalois.Pure := by
  intro l0 l1 _ _ hb0 _ _ hb1
  have hl0 := bytes_of_wf hb0
  have hl1 := bytes_of_wf hb1
  refine EvP.rounds ?_
  simp only [laws_FnGalois.f]
  refine EvP.ite (fun _ => EvP.some rfl) (fun _ => ?_)
  refine EvP.bind (draw_ok hl0) ?_
  rintro ⟨a, b⟩ -
  refine EvP.bind (draw_ok hl1) ?_
  rintro ⟨c, c'⟩ -
  dsimp only
  refine EvP.bind (Mul_impl a b) ?_
  rintro r rfl
  refine EvP.bind (Inv_impl a) ?_
  rintro r rfl
  refine EvP.bind (Mul_spec a b) ?_
  rintro r rfl
  refine EvP.pos rfl ?_
  refine EvP.bind (Inv_spec a) ?_
  rintro r rfl
  refine EvP.pos rfl ?_
  refine EvP.bind (Mul_impl b a) ?_
  rintro r rfl
  rw [gf_comm (by8_lt b) (by8_lt a), show ((gf (by8 a) (by8 b) : Int) != (gf (by8 a) (by8 b) : Int)) = false by simp]
  exact j0_ok a b c
end Go.Proofs.Ytcggngmcaicdpaa.Pure
