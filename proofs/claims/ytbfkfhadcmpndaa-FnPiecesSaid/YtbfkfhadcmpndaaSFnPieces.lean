/- What is drawn: it comes to an end, and how large it is. Written by a program of this session; Lean checks it. -/
import Derived.Test.YtbfkfhadcmpndaaQCuFnPieces
set_option linter.unusedVariables false
set_option maxRecDepth 10000
namespace Go.Proofs.Ytbfkfhadcmpndaa.CFnPieces
open Go Go.Proofs Go.Proofs.YtbfkfhadcmpndaaPM Go.Proofs.Ytbfkfhadcmpndaa.Q Go.Proofs.Ytbfkfhadcmpndaa.GFnPieces

theorem spec_l1Cur_streamData_l0_s {b : Int} (hb : b ≤ 4611686018427000000) (d : Nat) : ∀ (t : Int) (t9 : Int) (t10 : Int) (p0_01 : (List Int)) (p0_11 : Int) (p0_21 : Int) (p1 : (List Int)), 0 ≤ t → t ≤ 59 → t + (t9 - t10) ≤ 59 → t9 - t10 ≤ (d : Int) → 0 ≤ t9 → t9 ≤ 59 → 0 ≤ t10 → t10 ≤ 60 → (∀ y ∈ p0_01, 0 ≤ y ∧ y ≤ 255) → 0 ≤ p0_11 → p0_11 ≤ b → (p1.length : Int) ≤ 59 → (∀ y ∈ p1, 0 ≤ y ∧ y ≤ 122) → t9 = (p1.length : Int) → EvP (fun N => spec_l1Cur_streamData.l0 N t9 t10 p0_01 p0_11 p0_21 p1) (fun r => (∀ y ∈ r.2.1.1, 0 ≤ y ∧ y ≤ 255) ∧ 0 ≤ r.2.1.2.1 ∧ r.2.1.2.1 ≤ b ∧ (r.2.2.1.length : Int) ≤ 59 ∧ (∀ y ∈ r.2.2.1, 0 ≤ y ∧ y ≤ 122) ∧ True) := by
  induction d with
  | zero =>
    intro t t9 t10 p0_01 p0_11 p0_21 p1 t0 t1 t2 t3 h0 h1 h2 h3 h4 h5 h6 h7 h8 e0
    refine EvP.step (fun N => spec_l1Cur_streamData.l0.eq N _ _ _ _ _ _) ?_
    refine EvP.ite (fun c1 => ?_) (fun c1 => ?_)
    · refine EvP.chk (and_i (decide_eq_true (by omega)) (decide_eq_true (by omega))) ?_
      omega
    · exact EvP.some ⟨h4, (by (try dsimp only); omega), (by (try dsimp only); omega), (by (try dsimp only); omega), h8, trivial⟩
  | succ d ih =>
    intro t t9 t10 p0_01 p0_11 p0_21 p1 t0 t1 t2 t3 h0 h1 h2 h3 h4 h5 h6 h7 h8 e0
    refine EvP.step (fun N => spec_l1Cur_streamData.l0.eq N _ _ _ _ _ _) ?_
    refine EvP.ite (fun c1 => ?_) (fun c1 => ?_)
    · refine EvP.chk (and_i (decide_eq_true (by omega)) (decide_eq_true (by omega))) ?_
      have f2 := i64w (n := (t10 + 1)) (by omega) (by omega)
      have f3 := i64w (n := (t10 * 7)) (by omega) (by omega)
      have f4 := tmod_f (x := (IntKind.i64.wrap (t10 * 7))) (n := 26) (by omega) (by omega)
      have f5 := i64w (n := (97 + (Int.tmod (IntKind.i64.wrap (t10 * 7)) 26))) (by omega) (by omega)
      have f6 := u8i (n := (IntKind.i64.wrap (97 + (Int.tmod (IntKind.i64.wrap (t10 * 7)) 26)))) (by omega) (by omega)
      have f7 : (p1.set (Int.toNat t10) (IntKind.u8.wrap (IntKind.i64.wrap (97 + (Int.tmod (IntKind.i64.wrap (t10 * 7)) 26))))).length = p1.length := List.length_set
      exact ih (t + 1) _ _ _ _ _ _ (by omega) (by omega) (by omega) (by omega) (by omega) (by omega) (by omega) (by omega) h4 (by omega) (by omega) (by omega) (all_set h8 ⟨(by (try dsimp only); omega), (by (try dsimp only); omega)⟩) (by omega)
    · exact EvP.some ⟨h4, (by (try dsimp only); omega), (by (try dsimp only); omega), (by (try dsimp only); omega), h8, trivial⟩

theorem spec_l1Cur_streamData_s {b : Int} {p0_0 : (List Int)} {p0_1 : Int} {p0_2 : Int} (h0 : ∀ y ∈ p0_0, 0 ≤ y ∧ y ≤ 255) (h1 : 0 ≤ p0_1) (h2 : p0_1 ≤ b) (hb : b ≤ 4611686018426999998) : EvP (fun N => spec_l1Cur_streamData N p0_0 p0_1 p0_2) (fun r => (r.1.1.size : Int) ≤ 59 ∧ (∀ y ∈ r.2.1.1, 0 ≤ y ∧ y ≤ 255) ∧ 0 ≤ r.2.1.2.1 ∧ r.2.1.2.1 ≤ (b + 2) ∧ True) := by
  refine EvP.of (fun N => spec_l1Cur_streamData.eq N _ _ _) ?_
  refine EvP.andK (pick_s (b := b) (n := 60) (m := 59) h0 (by omega) (by omega) (by omega) (by omega) (by omega)) ?_
  intro u1 q1
  obtain ⟨q2, q3⟩ := q1
  obtain ⟨p4, p5, p6, p7⟩ := q2
  obtain ⟨p8, p9, p10, -⟩ := q3
  refine EvP.chk (and_i (decide_eq_true (by omega)) (and_i (smallI_i (by omega) (by omega)) (decide_eq_true (by omega)))) ?_
  have f11 : (List.replicate (Int.toNat u1.1.1) (0 : Int)).length = _ := List.length_replicate
  refine EvP.andK (spec_l1Cur_streamData_l0_s (b := (b + 2)) (by omega) 59 0 _ _ _ _ _ _ (by omega) (by omega) (by omega) (by omega) (by omega) (by omega) (by omega) (by omega) p8 (by omega) (by omega) (by omega) (all_rep (by simp)) (by omega)) ?_
  intro l2 q12
  obtain ⟨p13, p14, p15, p16, p17, -⟩ := q12
  have f18 := strL_size l2.2.2.1
  exact EvP.some ⟨(by (try dsimp only); omega), p13, (by (try dsimp only); omega), (by (try dsimp only); omega), trivial⟩

theorem spec_l1Cur_outflow_s {b : Int} {p0_0 : (List Int)} {p0_1 : Int} {p0_2 : Int} (h0 : ∀ y ∈ p0_0, 0 ≤ y ∧ y ≤ 255) (h1 : 0 ≤ p0_1) (h2 : p0_1 ≤ b) (hb : b ≤ 4611686018426999992) : EvP (fun N => spec_l1Cur_outflow N p0_0 p0_1 p0_2) (fun r => 0 ≤ r.1.1.1 ∧ r.1.1.1 ≤ 79 ∧ 0 ≤ r.1.1.2.1 ∧ r.1.1.2.1 ≤ 79 ∧ (r.1.1.2.2.1.size : Int) ≤ 59 ∧ (∀ y ∈ r.2.1.1, 0 ≤ y ∧ y ≤ 255) ∧ 0 ≤ r.2.1.2.1 ∧ r.2.1.2.1 ≤ (b + 10) ∧ True) := by
  refine EvP.of (fun N => spec_l1Cur_outflow.eq N _ _ _) ?_
  refine EvP.andK (pick_s (b := b) (n := 80) (m := 79) h0 (by omega) (by omega) (by omega) (by omega) (by omega)) ?_
  intro u1 q1
  obtain ⟨q2, q3⟩ := q1
  obtain ⟨p4, p5, p6, p7⟩ := q2
  obtain ⟨p8, p9, p10, -⟩ := q3
  refine EvP.andK (spec_l1Cur_streamData_s (b := (b + 2)) p8 (by omega) (by omega) (by omega)) ?_
  intro u2 q11
  obtain ⟨p12, p13, p14, p15, -⟩ := q11
  refine EvP.andK (one_s (b := (b + 4)) p13 (by omega) (by omega) (by omega)) ?_
  intro u3 q16
  obtain ⟨p17, p18, p19, -⟩ := q16
  have f20 := i64w (n := ((u2.1.1.size : Int) + 1)) (by omega) (by omega)
  refine EvP.andK (pick_s (b := (b + 6)) (n := (IntKind.i64.wrap ((u2.1.1.size : Int) + 1))) (m := 59) p17 (by omega) (by omega) (by omega) (by omega) (by omega)) ?_
  intro u4 q21
  obtain ⟨q22, q23⟩ := q21
  obtain ⟨p24, p25, p26, p27⟩ := q22
  obtain ⟨p28, p29, p30, -⟩ := q23
  refine EvP.andK (Q := fun r => (∀ y ∈ r.2.1.1, 0 ≤ y ∧ y ≤ 255) ∧ 0 ≤ r.2.1.2.1 ∧ r.2.1.2.1 ≤ (b + 10) ∧ 0 ≤ r.2.2.1.1 ∧ r.2.2.1.1 ≤ 0 ∧ 0 ≤ r.2.2.1.2.1 ∧ r.2.2.1.2.1 ≤ 0 ∧ (r.2.2.1.2.2.1.size : Int) ≤ 0 ∧ 0 ≤ r.2.2.2.1.1 ∧ r.2.2.2.1.1 ≤ 79 ∧ 0 ≤ r.2.2.2.1.2.1 ∧ r.2.2.2.1.2.1 ≤ 59 ∧ (r.2.2.2.1.2.2.1.size : Int) ≤ 59 ∧ (r.1.2.2.1 = true → u1.1.1 < u4.1.1) ∧ True) ?_ ?_
  · refine EvP.ite (fun c31 => ?_) (fun c31 => ?_)
    · refine EvP.andK (one_s (b := (b + 8)) p28 (by omega) (by omega) (by omega)) ?_
      intro u5 q32
      obtain ⟨p33, p34, p35, -⟩ := q32
      have f36 : (⟨#[]⟩ : ByteArray).size = 0 := rfl
      exact EvP.some ⟨p33, (by (try dsimp only); omega), (by (try dsimp only); omega), (by (try dsimp only); omega), (by (try dsimp only); omega), (by (try dsimp only); omega), (by (try dsimp only); omega), (by (try dsimp only); omega), (by (try dsimp only); omega), (by (try dsimp only); omega), (by (try dsimp only); omega), (by (try dsimp only); omega), (by (try dsimp only); omega), (fun h => by omega), trivial⟩
    · have f37 : (⟨#[]⟩ : ByteArray).size = 0 := rfl
      exact EvP.some ⟨p28, (by (try dsimp only); omega), (by (try dsimp only); omega), (by (try dsimp only); omega), (by (try dsimp only); omega), (by (try dsimp only); omega), (by (try dsimp only); omega), (by (try dsimp only); omega), (by (try dsimp only); omega), (by (try dsimp only); omega), (by (try dsimp only); omega), (by (try dsimp only); omega), (by (try dsimp only); omega), (fun h => by cases h), trivial⟩
  · intro j6 q38
    obtain ⟨p39, p40, p41, p42, p43, p44, p45, p46, p47, p48, p49, p50, p51, p52, -⟩ := q38
    refine EvP.sel (fun c53 => ?_) (fun c53 => ?_)
    · have f54 := p52 c53
      exact EvP.some ⟨(by (try dsimp only); omega), (by (try dsimp only); omega), (by (try dsimp only); omega), (by (try dsimp only); omega), (by (try dsimp only); omega), p39, (by (try dsimp only); omega), (by (try dsimp only); omega), trivial⟩
    · exact EvP.some ⟨(by (try dsimp only); omega), (by (try dsimp only); omega), (by (try dsimp only); omega), (by (try dsimp only); omega), (by (try dsimp only); omega), p39, (by (try dsimp only); omega), (by (try dsimp only); omega), trivial⟩

theorem spec_DrawNextPiece_s {code : (List Int)} (h0 : ∀ y ∈ code, 0 ≤ y ∧ y ≤ 255) : EvP (fun N => spec_DrawNextPiece N code) (fun r => 0 ≤ r.1.1.1 ∧ r.1.1.1 ≤ 79 ∧ 0 ≤ r.1.1.2.1 ∧ r.1.1.2.1 ≤ 79 ∧ (r.1.1.2.2.1.size : Int) ≤ 59 ∧ 0 ≤ r.1.2.1 ∧ r.1.2.1 ≤ 19 ∧ True) := by
  refine EvP.of (fun N => spec_DrawNextPiece.eq N _) ?_
  refine EvP.andK (spec_l1Cur_outflow_s (b := 0) h0 (by omega) (by omega) (by omega)) ?_
  intro u1 q1
  obtain ⟨p2, p3, p4, p5, p6, p7, p8, p9, -⟩ := q1
  refine EvP.andK (pick_s (b := 10) (n := 20) (m := 19) p7 (by omega) (by omega) (by omega) (by omega) (by omega)) ?_
  intro u2 q10
  obtain ⟨q11, q12⟩ := q10
  obtain ⟨p13, p14, p15, p16⟩ := q11
  obtain ⟨p17, p18, p19, -⟩ := q12
  exact EvP.some ⟨(by (try dsimp only); omega), (by (try dsimp only); omega), (by (try dsimp only); omega), (by (try dsimp only); omega), (by (try dsimp only); omega), (by (try dsimp only); omega), (by (try dsimp only); omega), trivial⟩

end Go.Proofs.Ytbfkfhadcmpndaa.CFnPieces
