/- What is drawn: it comes to an end, and how large it is. Written by a program of this session; Lean checks it. -/
import Derived.Test.YteichkkbhpdjcaaQCuFnCut
import Derived.Test.YteichkkbhpdjcaaQCuAmongFnCut
import Derived.Test.YteichkkbhpdjcaaQCuSpoiltFnCut
set_option linter.unusedVariables false
set_option maxRecDepth 10000
namespace Go.Proofs.Yteichkkbhpdjcaa.CFnCut
open Go Go.Proofs Go.Proofs.YteichkkbhpdjcaaPM Go.Proofs.Yteichkkbhpdjcaa.Q Go.Proofs.Yteichkkbhpdjcaa.GFnCut

theorem spec_l1Cur_id_s {b : Int} {p0_0 : (List Int)} {p0_1 : Int} {p0_2 : Int} (h0 : ∀ y ∈ p0_0, 0 ≤ y ∧ y ≤ 255) (h1 : 0 ≤ p0_1) (h2 : p0_1 ≤ b) (hb : b ≤ 4611686018423999994) : EvP (fun N => spec_l1Cur_id N p0_0 p0_1 p0_2) (fun r => (r.1.1.size : Int) ≤ 21 ∧ (∀ y ∈ r.2.1.1, 0 ≤ y ∧ y ≤ 255) ∧ 0 ≤ r.2.1.2.1 ∧ r.2.1.2.1 ≤ (b + 48) ∧ True) := by
  refine EvP.of (fun N => spec_l1Cur_id.eq N _ _ _) ?_
  refine EvP.andK (pick_s (b := b) (n := 10) (m := 9) h0 (by omega) (by omega) (by omega) (by omega) (by omega)) ?_
  intro u1 q1
  obtain ⟨q2, q3⟩ := q1
  obtain ⟨p4, p5, p6, p7⟩ := q2
  obtain ⟨p8, p9, p10, -⟩ := q3
  refine EvP.andK (Q := fun r => 0 ≤ r.1.2.1 ∧ r.1.2.1 ≤ 21 ∧ (∀ y ∈ r.2.1.1, 0 ≤ y ∧ y ≤ 255) ∧ 0 ≤ r.2.1.2.1 ∧ r.2.1.2.1 ≤ (b + 6) ∧ True) ?_ ?_
  · refine EvP.andK (one_s (b := (b + 2)) p8 (by omega) (by omega) (by omega)) ?_
    intro u2 q11
    obtain ⟨p12, p13, p14, -⟩ := q11
    refine EvP.sel (fun c15 => ?_) (fun c15 => ?_)
    · have f16 : ([20, 21, 0] : List Int).length = 3 := rfl
      refine EvP.andK (among_s (b := (b + 4)) (P := fun y => 0 ≤ y ∧ y ≤ 21) (all_cons ⟨(by (try dsimp only); omega), (by (try dsimp only); omega)⟩ (all_cons ⟨(by (try dsimp only); omega), (by (try dsimp only); omega)⟩ (all_cons ⟨(by (try dsimp only); omega), (by (try dsimp only); omega)⟩ all_nil))) (by decide) p12 (by omega) (by omega) (by omega)) ?_
      intro u3 q17
      obtain ⟨q18, q19⟩ := q17
      obtain ⟨p20, p21⟩ := q18
      obtain ⟨p22, p23, p24, -⟩ := q19
      exact EvP.some ⟨(by (try dsimp only); omega), (by (try dsimp only); omega), p22, (by (try dsimp only); omega), (by (try dsimp only); omega), trivial⟩
    · exact EvP.some ⟨(by (try dsimp only); omega), (by (try dsimp only); omega), p12, (by (try dsimp only); omega), (by (try dsimp only); omega), trivial⟩
  · intro j4 q25
    obtain ⟨p26, p27, p28, p29, p30, -⟩ := q25
    refine EvP.andK (sized_s (b := (b + 6)) (n := j4.1.2.1) (m := 21) p28 (by omega) (by omega) (by decide) (by omega) (by omega) (by omega)) ?_
    intro u5 q31
    obtain ⟨p32, p33, p34, p35, p36, -⟩ := q31
    have f37 := strL_size u5.2.2.1
    exact EvP.some ⟨(by (try dsimp only); omega), p32, (by (try dsimp only); omega), (by (try dsimp only); omega), trivial⟩

theorem spec_l1Cur_header_l0_s {b : Int} (hb : b ≤ 4611686018426999992) (d : Nat) : ∀ (t : Int) (o : Int) (p0_01 : (List Int)) (p0_11 : Int) (p0_21 : Int) (p1_0 : Int) (p1_1 : Int) (p1_2 : Int) (p1_3 : ByteArray) (p1_4 : ByteArray) (p1_5 : ByteArray) (p1_6 : ByteArray) (p2 : (List Int)) (p3_0 : Int) (p3_1 : Int) (p3_2 : Int) (p3_3 : ByteArray) (p3_4 : ByteArray) (p3_5 : ByteArray) (p3_6 : ByteArray) (p4 : (List Int)), 0 ≤ t → t ≤ 4 → t + (o - 0) ≤ 4 → o - 0 ≤ (d : Int) → (-4) ≤ o → o ≤ 4 → (∀ y ∈ p0_01, 0 ≤ y ∧ y ≤ 255) → 0 ≤ p0_11 → p0_11 ≤ (b + 2 * t) → 0 ≤ p1_0 → p1_0 ≤ 0 → 0 ≤ p1_1 → p1_1 ≤ 0 → 0 ≤ p1_2 → p1_2 ≤ 0 → (p1_3.size : Int) ≤ 0 → (p1_4.size : Int) ≤ 0 → (p1_5.size : Int) ≤ 0 → (p1_6.size : Int) ≤ 0 → (p2.length : Int) ≤ 20 → (∀ y ∈ p2, 0 ≤ y ∧ y ≤ 255) → 4 ≤ p3_0 → p3_0 ≤ 4 → 0 ≤ p3_1 → p3_1 ≤ 15 → 0 ≤ p3_2 → p3_2 ≤ 0 → (p3_3.size : Int) ≤ 21 → (p3_4.size : Int) ≤ 21 → (p3_5.size : Int) ≤ 79 → (p3_6.size : Int) ≤ 0 → (p4.length : Int) ≤ t → (∀ y ∈ p4, 0 ≤ y ∧ y ≤ 4294967295) → EvP (fun N => spec_l1Cur_header.l0 N o p0_01 p0_11 p0_21 p1_0 p1_1 p1_2 p1_3 p1_4 p1_5 p1_6 p2 p3_0 p3_1 p3_2 p3_3 p3_4 p3_5 p3_6 p4) (fun r => (∀ y ∈ r.2.1.1, 0 ≤ y ∧ y ≤ 255) ∧ 0 ≤ r.2.1.2.1 ∧ r.2.1.2.1 ≤ (b + 8) ∧ 0 ≤ r.2.2.1.1 ∧ r.2.2.1.1 ≤ 0 ∧ 0 ≤ r.2.2.1.2.1 ∧ r.2.2.1.2.1 ≤ 0 ∧ 0 ≤ r.2.2.1.2.2.1 ∧ r.2.2.1.2.2.1 ≤ 0 ∧ (r.2.2.1.2.2.2.1.size : Int) ≤ 0 ∧ (r.2.2.1.2.2.2.2.1.size : Int) ≤ 0 ∧ (r.2.2.1.2.2.2.2.2.1.size : Int) ≤ 0 ∧ (r.2.2.1.2.2.2.2.2.2.1.size : Int) ≤ 0 ∧ (r.2.2.2.1.length : Int) ≤ 20 ∧ (∀ y ∈ r.2.2.2.1, 0 ≤ y ∧ y ≤ 255) ∧ 4 ≤ r.2.2.2.2.1.1 ∧ r.2.2.2.2.1.1 ≤ 4 ∧ 0 ≤ r.2.2.2.2.1.2.1 ∧ r.2.2.2.2.1.2.1 ≤ 15 ∧ 0 ≤ r.2.2.2.2.1.2.2.1 ∧ r.2.2.2.2.1.2.2.1 ≤ 0 ∧ (r.2.2.2.2.1.2.2.2.1.size : Int) ≤ 21 ∧ (r.2.2.2.2.1.2.2.2.2.1.size : Int) ≤ 21 ∧ (r.2.2.2.2.1.2.2.2.2.2.1.size : Int) ≤ 79 ∧ (r.2.2.2.2.1.2.2.2.2.2.2.1.size : Int) ≤ 0 ∧ (r.2.2.2.2.2.1.length : Int) ≤ 4 ∧ (∀ y ∈ r.2.2.2.2.2.1, 0 ≤ y ∧ y ≤ 4294967295) ∧ True) := by
  induction d with
  | zero =>
    intro t o p0_01 p0_11 p0_21 p1_0 p1_1 p1_2 p1_3 p1_4 p1_5 p1_6 p2 p3_0 p3_1 p3_2 p3_3 p3_4 p3_5 p3_6 p4 t0 t1 t2 t3 h0 h1 h2 h3 h4 h5 h6 h7 h8 h9 h10 h11 h12 h13 h14 h15 h16 h17 h18 h19 h20 h21 h22 h23 h24 h25 h26 h27 h28
    refine EvP.step (fun N => spec_l1Cur_header.l0.eq N _ _ _ _ _ _ _ _ _ _ _ _ _ _ _ _ _ _ _ _) ?_
    refine EvP.ite (fun c1 => ?_) (fun c1 => ?_)
    · have f2 : ([0, 1, 4294967295, 7] : List Int).length = 4 := rfl
      refine EvP.andK (among_s (b := (b + 2 * t)) (P := fun y => 0 ≤ y ∧ y ≤ 4294967295) (all_cons ⟨(by (try dsimp only); omega), (by (try dsimp only); omega)⟩ (all_cons ⟨(by (try dsimp only); omega), (by (try dsimp only); omega)⟩ (all_cons ⟨(by (try dsimp only); omega), (by (try dsimp only); omega)⟩ (all_cons ⟨(by (try dsimp only); omega), (by (try dsimp only); omega)⟩ all_nil)))) (by decide) h2 (by omega) (by omega) (by omega)) ?_
      intro u15 q3
      obtain ⟨q4, q5⟩ := q3
      obtain ⟨p6, p7⟩ := q4
      obtain ⟨p8, p9, p10, -⟩ := q5
      refine EvP.chk (decide_eq_true (by unfold most; omega)) ?_
      omega
    · exact EvP.some ⟨h2, (by (try dsimp only); omega), (by (try dsimp only); omega), (by (try dsimp only); omega), (by (try dsimp only); omega), (by (try dsimp only); omega), (by (try dsimp only); omega), (by (try dsimp only); omega), (by (try dsimp only); omega), (by (try dsimp only); omega), (by (try dsimp only); omega), (by (try dsimp only); omega), (by (try dsimp only); omega), (by (try dsimp only); omega), h16, (by (try dsimp only); omega), (by (try dsimp only); omega), (by (try dsimp only); omega), (by (try dsimp only); omega), (by (try dsimp only); omega), (by (try dsimp only); omega), (by (try dsimp only); omega), (by (try dsimp only); omega), (by (try dsimp only); omega), (by (try dsimp only); omega), (by (try dsimp only); omega), h28, trivial⟩
  | succ d ih =>
    intro t o p0_01 p0_11 p0_21 p1_0 p1_1 p1_2 p1_3 p1_4 p1_5 p1_6 p2 p3_0 p3_1 p3_2 p3_3 p3_4 p3_5 p3_6 p4 t0 t1 t2 t3 h0 h1 h2 h3 h4 h5 h6 h7 h8 h9 h10 h11 h12 h13 h14 h15 h16 h17 h18 h19 h20 h21 h22 h23 h24 h25 h26 h27 h28
    refine EvP.step (fun N => spec_l1Cur_header.l0.eq N _ _ _ _ _ _ _ _ _ _ _ _ _ _ _ _ _ _ _ _) ?_
    refine EvP.ite (fun c1 => ?_) (fun c1 => ?_)
    · have f2 : ([0, 1, 4294967295, 7] : List Int).length = 4 := rfl
      refine EvP.andK (among_s (b := (b + 2 * t)) (P := fun y => 0 ≤ y ∧ y ≤ 4294967295) (all_cons ⟨(by (try dsimp only); omega), (by (try dsimp only); omega)⟩ (all_cons ⟨(by (try dsimp only); omega), (by (try dsimp only); omega)⟩ (all_cons ⟨(by (try dsimp only); omega), (by (try dsimp only); omega)⟩ (all_cons ⟨(by (try dsimp only); omega), (by (try dsimp only); omega)⟩ all_nil)))) (by decide) h2 (by omega) (by omega) (by omega)) ?_
      intro u15 q3
      obtain ⟨q4, q5⟩ := q3
      obtain ⟨p6, p7⟩ := q4
      obtain ⟨p8, p9, p10, -⟩ := q5
      refine EvP.chk (decide_eq_true (by unfold most; omega)) ?_
      have f11 := i64w (n := (o - 1)) (by omega) (by omega)
      have f12 : ([u15.1.1] : List Int).length = 1 := rfl
      have f13 : (p4 ++ [u15.1.1]).length = p4.length + [u15.1.1].length := List.length_append
      exact ih (t + 1) _ _ _ _ _ _ _ _ _ _ _ _ _ _ _ _ _ _ _ _ (by omega) (by omega) (by omega) (by omega) (by omega) (by omega) p8 (by omega) (by omega) (by omega) (by omega) (by omega) (by omega) (by omega) (by omega) (by omega) (by omega) (by omega) (by omega) (by omega) h16 (by omega) (by omega) (by omega) (by omega) (by omega) (by omega) (by omega) (by omega) (by omega) (by omega) (by omega) (all_app h28 (all_cons ⟨(by (try dsimp only); omega), (by (try dsimp only); omega)⟩ all_nil))
    · exact EvP.some ⟨h2, (by (try dsimp only); omega), (by (try dsimp only); omega), (by (try dsimp only); omega), (by (try dsimp only); omega), (by (try dsimp only); omega), (by (try dsimp only); omega), (by (try dsimp only); omega), (by (try dsimp only); omega), (by (try dsimp only); omega), (by (try dsimp only); omega), (by (try dsimp only); omega), (by (try dsimp only); omega), (by (try dsimp only); omega), h16, (by (try dsimp only); omega), (by (try dsimp only); omega), (by (try dsimp only); omega), (by (try dsimp only); omega), (by (try dsimp only); omega), (by (try dsimp only); omega), (by (try dsimp only); omega), (by (try dsimp only); omega), (by (try dsimp only); omega), (by (try dsimp only); omega), (by (try dsimp only); omega), h28, trivial⟩

theorem spec_l1Cur_header_s {b : Int} {p0_0 : (List Int)} {p0_1 : Int} {p0_2 : Int} (h0 : ∀ y ∈ p0_0, 0 ≤ y ∧ y ≤ 255) (h1 : 0 ≤ p0_1) (h2 : p0_1 ≤ b) (hb : b ≤ 4611686018423999852) : EvP (fun N => spec_l1Cur_header N p0_0 p0_1 p0_2) (fun r => 0 ≤ r.1.1.1 ∧ r.1.1.1 ≤ 5 ∧ 0 ≤ r.1.1.2.1 ∧ r.1.1.2.1 ≤ 16 ∧ (-1) ≤ r.1.1.2.2.1 ∧ r.1.1.2.2.1 ≤ 4294967296 ∧ (r.1.1.2.2.2.1.size : Int) ≤ 21 ∧ (r.1.1.2.2.2.2.1.size : Int) ≤ 21 ∧ (r.1.1.2.2.2.2.2.1.size : Int) ≤ 79 ∧ (r.1.1.2.2.2.2.2.2.1.size : Int) ≤ 1201 ∧ (∀ y ∈ r.2.1.1, 0 ≤ y ∧ y ≤ 255) ∧ 0 ≤ r.2.1.2.1 ∧ r.2.1.2.1 ≤ (b + 320) ∧ (r.2.2.1.length : Int) ≤ 4 ∧ (∀ y ∈ r.2.2.1, 0 ≤ y ∧ y ≤ 4294967295) ∧ True) := by
  refine EvP.of (fun N => spec_l1Cur_header.eq N _ _ _) ?_
  refine EvP.andK (pick_s (b := b) (n := 6) (m := 5) h0 (by omega) (by omega) (by omega) (by omega) (by omega)) ?_
  intro u1 q1
  obtain ⟨q2, q3⟩ := q1
  obtain ⟨p4, p5, p6, p7⟩ := q2
  obtain ⟨p8, p9, p10, -⟩ := q3
  refine EvP.andK (pick_s (b := (b + 2)) (n := 16) (m := 15) p8 (by omega) (by omega) (by omega) (by omega) (by omega)) ?_
  intro u2 q11
  obtain ⟨q12, q13⟩ := q11
  obtain ⟨p14, p15, p16, p17⟩ := q12
  obtain ⟨p18, p19, p20, -⟩ := q13
  refine EvP.andK (spec_l1Cur_id_s (b := (b + 4)) p18 (by omega) (by omega) (by omega)) ?_
  intro u3 q21
  obtain ⟨p22, p23, p24, p25, -⟩ := q21
  refine EvP.andK (pick_s (b := (b + 52)) (n := 20) (m := 19) p23 (by omega) (by omega) (by omega) (by omega) (by omega)) ?_
  intro u4 q26
  obtain ⟨q27, q28⟩ := q26
  obtain ⟨p29, p30, p31, p32⟩ := q27
  obtain ⟨p33, p34, p35, -⟩ := q28
  have f36 := i64w (n := (1 + u4.1.1)) (by omega) (by omega)
  refine EvP.andK (sized_s (b := (b + 54)) (n := (IntKind.i64.wrap (1 + u4.1.1))) (m := 20) p33 (by omega) (by omega) (by decide) (by omega) (by omega) (by omega)) ?_
  intro u5 q37
  obtain ⟨p38, p39, p40, p41, p42, -⟩ := q37
  refine EvP.andK (Q := fun r => (∀ y ∈ r.2.1.1, 0 ≤ y ∧ y ≤ 255) ∧ 0 ≤ r.2.1.2.1 ∧ r.2.1.2.1 ≤ (b + 144) ∧ 0 ≤ r.2.2.1.1 ∧ r.2.2.1.1 ≤ 0 ∧ 0 ≤ r.2.2.1.2.1 ∧ r.2.2.1.2.1 ≤ 0 ∧ 0 ≤ r.2.2.1.2.2.1 ∧ r.2.2.1.2.2.1 ≤ 0 ∧ (r.2.2.1.2.2.2.1.size : Int) ≤ 0 ∧ (r.2.2.1.2.2.2.2.1.size : Int) ≤ 0 ∧ (r.2.2.1.2.2.2.2.2.1.size : Int) ≤ 0 ∧ (r.2.2.1.2.2.2.2.2.2.1.size : Int) ≤ 0 ∧ (r.2.2.2.1.length : Int) ≤ 20 ∧ (∀ y ∈ r.2.2.2.1, 0 ≤ y ∧ y ≤ 255) ∧ 0 ≤ r.2.2.2.2.1.1 ∧ r.2.2.2.2.1.1 ≤ 5 ∧ 0 ≤ r.2.2.2.2.1.2.1 ∧ r.2.2.2.2.1.2.1 ≤ 15 ∧ 0 ≤ r.2.2.2.2.1.2.2.1 ∧ r.2.2.2.2.1.2.2.1 ≤ 4294967295 ∧ (r.2.2.2.2.1.2.2.2.1.size : Int) ≤ 21 ∧ (r.2.2.2.2.1.2.2.2.2.1.size : Int) ≤ 21 ∧ (r.2.2.2.2.1.2.2.2.2.2.1.size : Int) ≤ 0 ∧ (r.2.2.2.2.1.2.2.2.2.2.2.1.size : Int) ≤ 20 ∧ True) ?_ ?_
  · refine EvP.nite (fun c43 => ?_) (fun c43 => ?_)
    · refine EvP.andK (spec_l1Cur_id_s (b := (b + 94)) p38 (by omega) (by omega) (by omega)) ?_
      intro u6 q44
      obtain ⟨p45, p46, p47, p48, -⟩ := q44
      have f49 : ([1, 1, 4294967295, 1798521807] : List Int).length = 4 := rfl
      refine EvP.andK (among_s (b := (b + 142)) (P := fun y => 1 ≤ y ∧ y ≤ 4294967295) (all_cons ⟨(by (try dsimp only); omega), (by (try dsimp only); omega)⟩ (all_cons ⟨(by (try dsimp only); omega), (by (try dsimp only); omega)⟩ (all_cons ⟨(by (try dsimp only); omega), (by (try dsimp only); omega)⟩ (all_cons ⟨(by (try dsimp only); omega), (by (try dsimp only); omega)⟩ all_nil)))) (by decide) p46 (by omega) (by omega) (by omega)) ?_
      intro u7 q50
      obtain ⟨q51, q52⟩ := q50
      obtain ⟨p53, p54⟩ := q51
      obtain ⟨p55, p56, p57, -⟩ := q52
      have f58 : (⟨#[]⟩ : ByteArray).size = 0 := rfl
      have f59 := strL_size u5.2.2.1
      exact EvP.some ⟨p55, (by (try dsimp only); omega), (by (try dsimp only); omega), (by (try dsimp only); omega), (by (try dsimp only); omega), (by (try dsimp only); omega), (by (try dsimp only); omega), (by (try dsimp only); omega), (by (try dsimp only); omega), (by (try dsimp only); omega), (by (try dsimp only); omega), (by (try dsimp only); omega), (by (try dsimp only); omega), (by (try dsimp only); omega), p42, (by (try dsimp only); omega), (by (try dsimp only); omega), (by (try dsimp only); omega), (by (try dsimp only); omega), (by (try dsimp only); omega), (by (try dsimp only); omega), (by (try dsimp only); omega), (by (try dsimp only); omega), (by (try dsimp only); omega), (by (try dsimp only); omega), trivial⟩
    · have f60 : (⟨#[]⟩ : ByteArray).size = 0 := rfl
      have f61 := strL_size u5.2.2.1
      exact EvP.some ⟨p38, (by (try dsimp only); omega), (by (try dsimp only); omega), (by (try dsimp only); omega), (by (try dsimp only); omega), (by (try dsimp only); omega), (by (try dsimp only); omega), (by (try dsimp only); omega), (by (try dsimp only); omega), (by (try dsimp only); omega), (by (try dsimp only); omega), (by (try dsimp only); omega), (by (try dsimp only); omega), (by (try dsimp only); omega), p42, (by (try dsimp only); omega), (by (try dsimp only); omega), (by (try dsimp only); omega), (by (try dsimp only); omega), (by (try dsimp only); omega), (by (try dsimp only); omega), (by (try dsimp only); omega), (by (try dsimp only); omega), (by (try dsimp only); omega), (by (try dsimp only); omega), trivial⟩
  · intro j8 q62
    obtain ⟨p63, p64, p65, p66, p67, p68, p69, p70, p71, p72, p73, p74, p75, p76, p77, p78, p79, p80, p81, p82, p83, p84, p85, p86, p87, -⟩ := q62
    refine EvP.andK (Q := fun r => (∀ y ∈ r.2.1.1, 0 ≤ y ∧ y ≤ 255) ∧ 0 ≤ r.2.1.2.1 ∧ r.2.1.2.1 ≤ (b + 306) ∧ 0 ≤ r.2.2.1.1 ∧ r.2.2.1.1 ≤ 0 ∧ 0 ≤ r.2.2.1.2.1 ∧ r.2.2.1.2.1 ≤ 0 ∧ 0 ≤ r.2.2.1.2.2.1 ∧ r.2.2.1.2.2.1 ≤ 0 ∧ (r.2.2.1.2.2.2.1.size : Int) ≤ 0 ∧ (r.2.2.1.2.2.2.2.1.size : Int) ≤ 0 ∧ (r.2.2.1.2.2.2.2.2.1.size : Int) ≤ 0 ∧ (r.2.2.1.2.2.2.2.2.2.1.size : Int) ≤ 0 ∧ (r.2.2.2.1.length : Int) ≤ 20 ∧ (∀ y ∈ r.2.2.2.1, 0 ≤ y ∧ y ≤ 255) ∧ 0 ≤ r.2.2.2.2.1.1 ∧ r.2.2.2.2.1.1 ≤ 5 ∧ 0 ≤ r.2.2.2.2.1.2.1 ∧ r.2.2.2.2.1.2.1 ≤ 15 ∧ 0 ≤ r.2.2.2.2.1.2.2.1 ∧ r.2.2.2.2.1.2.2.1 ≤ 4294967295 ∧ (r.2.2.2.2.1.2.2.2.1.size : Int) ≤ 21 ∧ (r.2.2.2.2.1.2.2.2.2.1.size : Int) ≤ 21 ∧ (r.2.2.2.2.1.2.2.2.2.2.1.size : Int) ≤ 79 ∧ (r.2.2.2.2.1.2.2.2.2.2.2.1.size : Int) ≤ 20 ∧ True) ?_ ?_
    · refine EvP.andK (Q := fun r => (∀ y ∈ r.2.1.1, 0 ≤ y ∧ y ≤ 255) ∧ 0 ≤ r.2.1.2.1 ∧ r.2.1.2.1 ≤ (b + 146) ∧ 0 ≤ r.2.2.1.1 ∧ r.2.2.1.1 ≤ 0 ∧ 0 ≤ r.2.2.1.2.1 ∧ r.2.2.1.2.1 ≤ 0 ∧ 0 ≤ r.2.2.1.2.2.1 ∧ r.2.2.1.2.2.1 ≤ 0 ∧ (r.2.2.1.2.2.2.1.size : Int) ≤ 0 ∧ (r.2.2.1.2.2.2.2.1.size : Int) ≤ 0 ∧ (r.2.2.1.2.2.2.2.2.1.size : Int) ≤ 0 ∧ (r.2.2.1.2.2.2.2.2.2.1.size : Int) ≤ 0 ∧ (r.2.2.2.1.length : Int) ≤ 20 ∧ (∀ y ∈ r.2.2.2.1, 0 ≤ y ∧ y ≤ 255) ∧ 0 ≤ r.2.2.2.2.1.1 ∧ r.2.2.2.2.1.1 ≤ 5 ∧ 0 ≤ r.2.2.2.2.1.2.1 ∧ r.2.2.2.2.1.2.1 ≤ 15 ∧ 0 ≤ r.2.2.2.2.1.2.2.1 ∧ r.2.2.2.2.1.2.2.1 ≤ 4294967295 ∧ (r.2.2.2.2.1.2.2.2.1.size : Int) ≤ 21 ∧ (r.2.2.2.2.1.2.2.2.2.1.size : Int) ≤ 21 ∧ (r.2.2.2.2.1.2.2.2.2.2.1.size : Int) ≤ 0 ∧ (r.2.2.2.2.1.2.2.2.2.2.2.1.size : Int) ≤ 20 ∧ (r.1.2.2.2.1 = true → j8.2.2.2.2.1.1 = 0) ∧ True) ?_ ?_
      · refine EvP.ite (fun c88 => ?_) (fun c88 => ?_)
        · refine EvP.andK (one_s (b := (b + 144)) p63 (by omega) (by omega) (by omega)) ?_
          intro u9 q89
          obtain ⟨p90, p91, p92, -⟩ := q89
          exact EvP.some ⟨p90, (by (try dsimp only); omega), (by (try dsimp only); omega), (by (try dsimp only); omega), (by (try dsimp only); omega), (by (try dsimp only); omega), (by (try dsimp only); omega), (by (try dsimp only); omega), (by (try dsimp only); omega), (by (try dsimp only); omega), (by (try dsimp only); omega), (by (try dsimp only); omega), (by (try dsimp only); omega), (by (try dsimp only); omega), p77, (by (try dsimp only); omega), (by (try dsimp only); omega), (by (try dsimp only); omega), (by (try dsimp only); omega), (by (try dsimp only); omega), (by (try dsimp only); omega), (by (try dsimp only); omega), (by (try dsimp only); omega), (by (try dsimp only); omega), (by (try dsimp only); omega), (fun h => by omega), trivial⟩
        · exact EvP.some ⟨p63, (by (try dsimp only); omega), (by (try dsimp only); omega), (by (try dsimp only); omega), (by (try dsimp only); omega), (by (try dsimp only); omega), (by (try dsimp only); omega), (by (try dsimp only); omega), (by (try dsimp only); omega), (by (try dsimp only); omega), (by (try dsimp only); omega), (by (try dsimp only); omega), (by (try dsimp only); omega), (by (try dsimp only); omega), p77, (by (try dsimp only); omega), (by (try dsimp only); omega), (by (try dsimp only); omega), (by (try dsimp only); omega), (by (try dsimp only); omega), (by (try dsimp only); omega), (by (try dsimp only); omega), (by (try dsimp only); omega), (by (try dsimp only); omega), (by (try dsimp only); omega), (fun h => by cases h), trivial⟩
      · intro j10 q93
        obtain ⟨p94, p95, p96, p97, p98, p99, p100, p101, p102, p103, p104, p105, p106, p107, p108, p109, p110, p111, p112, p113, p114, p115, p116, p117, p118, p119, -⟩ := q93
        refine EvP.sel (fun c120 => ?_) (fun c120 => ?_)
        · have f121 := p119 c120
          refine EvP.andK (pick_s (b := (b + 146)) (n := 80) (m := 79) p94 (by omega) (by omega) (by omega) (by omega) (by omega)) ?_
          intro u11 q122
          obtain ⟨q123, q124⟩ := q122
          obtain ⟨p125, p126, p127, p128⟩ := q123
          obtain ⟨p129, p130, p131, -⟩ := q124
          refine EvP.andK (sized_s (b := (b + 148)) (n := u11.1.1) (m := 79) p129 (by omega) (by omega) (by decide) (by omega) (by omega) (by omega)) ?_
          intro u12 q132
          obtain ⟨p133, p134, p135, p136, p137, -⟩ := q132
          have f138 := strL_size u12.2.2.1
          exact EvP.some ⟨p133, (by (try dsimp only); omega), (by (try dsimp only); omega), (by (try dsimp only); omega), (by (try dsimp only); omega), (by (try dsimp only); omega), (by (try dsimp only); omega), (by (try dsimp only); omega), (by (try dsimp only); omega), (by (try dsimp only); omega), (by (try dsimp only); omega), (by (try dsimp only); omega), (by (try dsimp only); omega), (by (try dsimp only); omega), p108, (by (try dsimp only); omega), (by (try dsimp only); omega), (by (try dsimp only); omega), (by (try dsimp only); omega), (by (try dsimp only); omega), (by (try dsimp only); omega), (by (try dsimp only); omega), (by (try dsimp only); omega), (by (try dsimp only); omega), (by (try dsimp only); omega), trivial⟩
        · exact EvP.some ⟨p94, (by (try dsimp only); omega), (by (try dsimp only); omega), (by (try dsimp only); omega), (by (try dsimp only); omega), (by (try dsimp only); omega), (by (try dsimp only); omega), (by (try dsimp only); omega), (by (try dsimp only); omega), (by (try dsimp only); omega), (by (try dsimp only); omega), (by (try dsimp only); omega), (by (try dsimp only); omega), (by (try dsimp only); omega), p108, (by (try dsimp only); omega), (by (try dsimp only); omega), (by (try dsimp only); omega), (by (try dsimp only); omega), (by (try dsimp only); omega), (by (try dsimp only); omega), (by (try dsimp only); omega), (by (try dsimp only); omega), (by (try dsimp only); omega), (by (try dsimp only); omega), trivial⟩
    · intro j13 q139
      obtain ⟨p140, p141, p142, p143, p144, p145, p146, p147, p148, p149, p150, p151, p152, p153, p154, p155, p156, p157, p158, p159, p160, p161, p162, p163, p164, -⟩ := q139
      refine EvP.andK (Q := fun r => (∀ y ∈ r.2.1.1, 0 ≤ y ∧ y ≤ 255) ∧ 0 ≤ r.2.1.2.1 ∧ r.2.1.2.1 ≤ (b + 316) ∧ 0 ≤ r.2.2.1.1 ∧ r.2.2.1.1 ≤ 0 ∧ 0 ≤ r.2.2.1.2.1 ∧ r.2.2.1.2.1 ≤ 0 ∧ 0 ≤ r.2.2.1.2.2.1 ∧ r.2.2.1.2.2.1 ≤ 0 ∧ (r.2.2.1.2.2.2.1.size : Int) ≤ 0 ∧ (r.2.2.1.2.2.2.2.1.size : Int) ≤ 0 ∧ (r.2.2.1.2.2.2.2.2.1.size : Int) ≤ 0 ∧ (r.2.2.1.2.2.2.2.2.2.1.size : Int) ≤ 0 ∧ (r.2.2.2.1.length : Int) ≤ 20 ∧ (∀ y ∈ r.2.2.2.1, 0 ≤ y ∧ y ≤ 255) ∧ 0 ≤ r.2.2.2.2.1.1 ∧ r.2.2.2.2.1.1 ≤ 5 ∧ 0 ≤ r.2.2.2.2.1.2.1 ∧ r.2.2.2.2.1.2.1 ≤ 15 ∧ 0 ≤ r.2.2.2.2.1.2.2.1 ∧ r.2.2.2.2.1.2.2.1 ≤ 4294967295 ∧ (r.2.2.2.2.1.2.2.2.1.size : Int) ≤ 21 ∧ (r.2.2.2.2.1.2.2.2.2.1.size : Int) ≤ 21 ∧ (r.2.2.2.2.1.2.2.2.2.2.1.size : Int) ≤ 79 ∧ (r.2.2.2.2.1.2.2.2.2.2.2.1.size : Int) ≤ 20 ∧ (r.2.2.2.2.2.1.length : Int) ≤ 4 ∧ (∀ y ∈ r.2.2.2.2.2.1, 0 ≤ y ∧ y ≤ 4294967295) ∧ True) ?_ ?_
      · refine EvP.ite (fun c165 => ?_) (fun c165 => ?_)
        · refine EvP.andK (pick_s (b := (b + 306)) (n := 4) (m := 3) p140 (by omega) (by omega) (by omega) (by omega) (by omega)) ?_
          intro u14 q166
          obtain ⟨q167, q168⟩ := q166
          obtain ⟨p169, p170, p171, p172⟩ := q167
          obtain ⟨p173, p174, p175, -⟩ := q168
          have f176 := i64w (n := (1 + u14.1.1)) (by omega) (by omega)
          have f177 : (⟨#[]⟩ : ByteArray).size = 0 := rfl
          have f178 : ([] : List Int).length = 0 := rfl
          refine EvP.andK (spec_l1Cur_header_l0_s (b := (b + 308)) (by omega) 4 0 _ _ _ _ _ _ _ _ _ _ _ _ _ _ _ _ _ _ _ _ (by omega) (by omega) (by omega) (by omega) (by omega) (by omega) p173 (by omega) (by omega) (by omega) (by omega) (by omega) (by omega) (by omega) (by omega) (by omega) (by omega) (by omega) (by omega) (by omega) p154 (by omega) (by omega) (by omega) (by omega) (by omega) (by omega) (by omega) (by omega) (by omega) (by omega) (by omega) all_nil) ?_
          intro l16 q179
          obtain ⟨p180, p181, p182, p183, p184, p185, p186, p187, p188, p189, p190, p191, p192, p193, p194, p195, p196, p197, p198, p199, p200, p201, p202, p203, p204, p205, p206, -⟩ := q179
          exact EvP.some ⟨p180, (by (try dsimp only); omega), (by (try dsimp only); omega), (by (try dsimp only); omega), (by (try dsimp only); omega), (by (try dsimp only); omega), (by (try dsimp only); omega), (by (try dsimp only); omega), (by (try dsimp only); omega), (by (try dsimp only); omega), (by (try dsimp only); omega), (by (try dsimp only); omega), (by (try dsimp only); omega), (by (try dsimp only); omega), p194, (by (try dsimp only); omega), (by (try dsimp only); omega), (by (try dsimp only); omega), (by (try dsimp only); omega), (by (try dsimp only); omega), (by (try dsimp only); omega), (by (try dsimp only); omega), (by (try dsimp only); omega), (by (try dsimp only); omega), (by (try dsimp only); omega), (by (try dsimp only); omega), p206, trivial⟩
        · have f207 : ([] : List Int).length = 0 := rfl
          exact EvP.some ⟨p140, (by (try dsimp only); omega), (by (try dsimp only); omega), (by (try dsimp only); omega), (by (try dsimp only); omega), (by (try dsimp only); omega), (by (try dsimp only); omega), (by (try dsimp only); omega), (by (try dsimp only); omega), (by (try dsimp only); omega), (by (try dsimp only); omega), (by (try dsimp only); omega), (by (try dsimp only); omega), (by (try dsimp only); omega), p154, (by (try dsimp only); omega), (by (try dsimp only); omega), (by (try dsimp only); omega), (by (try dsimp only); omega), (by (try dsimp only); omega), (by (try dsimp only); omega), (by (try dsimp only); omega), (by (try dsimp only); omega), (by (try dsimp only); omega), (by (try dsimp only); omega), (by (try dsimp only); omega), all_nil, trivial⟩
      · intro j17 q208
        obtain ⟨p209, p210, p211, p212, p213, p214, p215, p216, p217, p218, p219, p220, p221, p222, p223, p224, p225, p226, p227, p228, p229, p230, p231, p232, p233, p234, p235, -⟩ := q208
        refine EvP.andK (pick_s (b := (b + 316)) (n := 40) (m := 39) p209 (by omega) (by omega) (by omega) (by omega) (by omega)) ?_
        intro u18 q236
        obtain ⟨q237, q238⟩ := q236
        obtain ⟨p239, p240, p241, p242⟩ := q237
        obtain ⟨p243, p244, p245, -⟩ := q238
        refine EvP.ite (fun c246 => ?_) (fun c246 => ?_)
        · exact EvP.some ⟨(by (try dsimp only); omega), (by (try dsimp only); omega), (by (try dsimp only); omega), (by (try dsimp only); omega), (by (try dsimp only); omega), (by (try dsimp only); omega), (by (try dsimp only); omega), (by (try dsimp only); omega), (by (try dsimp only); omega), (by (try dsimp only); omega), p243, (by (try dsimp only); omega), (by (try dsimp only); omega), (by (try dsimp only); omega), p235, trivial⟩
        · refine EvP.ite (fun c247 => ?_) (fun c247 => ?_)
          · have f248 : ([(-1), 0, 4294967296] : List Int).length = 3 := rfl
            refine EvP.andK (among_s (b := (b + 318)) (P := fun y => (-1) ≤ y ∧ y ≤ 4294967296) (all_cons ⟨(by (try dsimp only); omega), (by (try dsimp only); omega)⟩ (all_cons ⟨(by (try dsimp only); omega), (by (try dsimp only); omega)⟩ (all_cons ⟨(by (try dsimp only); omega), (by (try dsimp only); omega)⟩ all_nil))) (by decide) p243 (by omega) (by omega) (by omega)) ?_
            intro u19 q249
            obtain ⟨q250, q251⟩ := q249
            obtain ⟨p252, p253⟩ := q250
            obtain ⟨p254, p255, p256, -⟩ := q251
            exact EvP.some ⟨(by (try dsimp only); omega), (by (try dsimp only); omega), (by (try dsimp only); omega), (by (try dsimp only); omega), (by (try dsimp only); omega), (by (try dsimp only); omega), (by (try dsimp only); omega), (by (try dsimp only); omega), (by (try dsimp only); omega), (by (try dsimp only); omega), p254, (by (try dsimp only); omega), (by (try dsimp only); omega), (by (try dsimp only); omega), p235, trivial⟩
          · refine EvP.ite (fun c257 => ?_) (fun c257 => ?_)
            · have f258 : ([0, 1200, 1201] : List Int).length = 3 := rfl
              refine EvP.andK (among_s (b := (b + 318)) (P := fun y => 0 ≤ y ∧ y ≤ 1201) (all_cons ⟨(by (try dsimp only); omega), (by (try dsimp only); omega)⟩ (all_cons ⟨(by (try dsimp only); omega), (by (try dsimp only); omega)⟩ (all_cons ⟨(by (try dsimp only); omega), (by (try dsimp only); omega)⟩ all_nil))) (by decide) p243 (by omega) (by omega) (by omega)) ?_
              intro u20 q259
              obtain ⟨q260, q261⟩ := q259
              obtain ⟨p262, p263⟩ := q260
              obtain ⟨p264, p265, p266, -⟩ := q261
              refine EvP.chk (and_i (decide_eq_true (by omega)) (and_i (smallI_i (by omega) (by omega)) (decide_eq_true (by omega)))) ?_
              have f267 : (List.replicate (Int.toNat u20.1.1) (0 : Int)).length = _ := List.length_replicate
              have f268 := strL_size (List.replicate (Int.toNat u20.1.1) (0 : Int))
              exact EvP.some ⟨(by (try dsimp only); omega), (by (try dsimp only); omega), (by (try dsimp only); omega), (by (try dsimp only); omega), (by (try dsimp only); omega), (by (try dsimp only); omega), (by (try dsimp only); omega), (by (try dsimp only); omega), (by (try dsimp only); omega), (by (try dsimp only); omega), p264, (by (try dsimp only); omega), (by (try dsimp only); omega), (by (try dsimp only); omega), p235, trivial⟩
            · refine EvP.ite (fun c269 => ?_) (fun c269 => ?_)
              · have f270 : (⟨#[116]⟩ : ByteArray).size = 1 := rfl
                exact EvP.some ⟨(by (try dsimp only); omega), (by (try dsimp only); omega), (by (try dsimp only); omega), (by (try dsimp only); omega), (by (try dsimp only); omega), (by (try dsimp only); omega), (by (try dsimp only); omega), (by (try dsimp only); omega), (by (try dsimp only); omega), (by (try dsimp only); omega), p243, (by (try dsimp only); omega), (by (try dsimp only); omega), (by (try dsimp only); omega), p235, trivial⟩
              · exact EvP.some ⟨(by (try dsimp only); omega), (by (try dsimp only); omega), (by (try dsimp only); omega), (by (try dsimp only); omega), (by (try dsimp only); omega), (by (try dsimp only); omega), (by (try dsimp only); omega), (by (try dsimp only); omega), (by (try dsimp only); omega), (by (try dsimp only); omega), p243, (by (try dsimp only); omega), (by (try dsimp only); omega), (by (try dsimp only); omega), p235, trivial⟩

theorem spec_l1In_s {n : Int} {lo : Int} {hi : Int} (h0 : 0 ≤ n) (h1 : n ≤ 16) (h2 : 0 ≤ lo) (h3 : lo ≤ 0) (h4 : 15 ≤ hi) (h5 : hi ≤ 15) : EvP (fun N => spec_l1In N n lo hi) (fun r => True) := by
  refine EvP.of (fun N => spec_l1In.eq N _ _ _) ?_
  refine EvP.pos (by omega) ?_
  exact EvP.some trivial

theorem spec_l1In_s2 {n : Int} {lo : Int} {hi : Int} (h0 : (-1) ≤ n) (h1 : n ≤ 4294967296) (h2 : 1 ≤ lo) (h3 : lo ≤ 1) (h4 : 4294967295 ≤ hi) (h5 : hi ≤ 4294967295) : EvP (fun N => spec_l1In N n lo hi) (fun r => True) := by
  refine EvP.of (fun N => spec_l1In.eq N _ _ _) ?_
  refine EvP.ite (fun c1 => ?_) (fun c1 => ?_)
  · exact EvP.some trivial
  · exact EvP.some trivial

theorem spec_l1In_s3 {n : Int} {lo : Int} {hi : Int} (h0 : 0 ≤ n) (h1 : n ≤ 4294967295) (h2 : 0 ≤ lo) (h3 : lo ≤ 0) (h4 : 4294967295 ≤ hi) (h5 : hi ≤ 4294967295) : EvP (fun N => spec_l1In N n lo hi) (fun r => True) := by
  refine EvP.of (fun N => spec_l1In.eq N _ _ _) ?_
  refine EvP.pos (by omega) ?_
  exact EvP.some trivial

theorem spec_l2Word_s {n : Int} (h0 : 0 ≤ n) (h1 : n ≤ 4294967295) : EvP (fun N => spec_l2Word N n) (fun r => True) := by
  refine EvP.of (fun N => spec_l2Word.eq N _) ?_
  refine EvP.andK (spec_l1In_s3 (by omega) (by omega) (by omega) (by omega) (by omega) (by omega)) ?_
  intro u1 q1
  exact EvP.some trivial

theorem spec_GoodHeader_l3_s (d : Nat) : ∀ (t : Int) (t703 : (List Int)) (t713 : Int) (t723 : Int) (p0_03 : Int) (p0_13 : Int) (p0_23 : Int) (p0_33 : ByteArray) (p0_43 : ByteArray) (p0_53 : ByteArray) (p0_63 : ByteArray) (p0_73 : (List Int)), 0 ≤ t → t ≤ 4 → t + (t713 - t723) ≤ 4 → t713 - t723 ≤ (d : Int) → (t703.length : Int) ≤ 4 → (∀ y ∈ t703, 0 ≤ y ∧ y ≤ 4294967295) → 0 ≤ t713 → t713 ≤ 4 → 0 ≤ t723 → t723 ≤ 5 → 4 ≤ p0_03 → p0_03 ≤ 4 → 0 ≤ p0_13 → p0_13 ≤ 16 → (-1) ≤ p0_23 → p0_23 ≤ 4294967296 → (p0_33.size : Int) ≤ 21 → (p0_43.size : Int) ≤ 21 → (p0_53.size : Int) ≤ 79 → (p0_63.size : Int) ≤ 1201 → (p0_73.length : Int) ≤ 4 → (∀ y ∈ p0_73, 0 ≤ y ∧ y ≤ 4294967295) → t713 = (t703.length : Int) → EvP (fun N => spec_GoodHeader.l3 N t703 t713 t723 p0_03 p0_13 p0_23 p0_33 p0_43 p0_53 p0_63 p0_73) (fun r => (∀ x, r = .inl x → 4 ≤ x.2.1.1 ∧ x.2.1.1 ≤ 4 ∧ 0 ≤ x.2.1.2.1 ∧ x.2.1.2.1 ≤ 16 ∧ (-1) ≤ x.2.1.2.2.1 ∧ x.2.1.2.2.1 ≤ 4294967296 ∧ (x.2.1.2.2.2.1.size : Int) ≤ 21 ∧ (x.2.1.2.2.2.2.1.size : Int) ≤ 21 ∧ (x.2.1.2.2.2.2.2.1.size : Int) ≤ 79 ∧ (x.2.1.2.2.2.2.2.2.1.size : Int) ≤ 1201 ∧ (x.2.1.2.2.2.2.2.2.2.1.length : Int) ≤ 4 ∧ (∀ y ∈ x.2.1.2.2.2.2.2.2.2.1, 0 ≤ y ∧ y ≤ 4294967295) ∧ True) ∧ (∀ x, r = .inr x → 4 ≤ x.2.1.1 ∧ x.2.1.1 ≤ 4 ∧ 0 ≤ x.2.1.2.1 ∧ x.2.1.2.1 ≤ 16 ∧ (-1) ≤ x.2.1.2.2.1 ∧ x.2.1.2.2.1 ≤ 4294967296 ∧ (x.2.1.2.2.2.1.size : Int) ≤ 21 ∧ (x.2.1.2.2.2.2.1.size : Int) ≤ 21 ∧ (x.2.1.2.2.2.2.2.1.size : Int) ≤ 79 ∧ (x.2.1.2.2.2.2.2.2.1.size : Int) ≤ 1201 ∧ (x.2.1.2.2.2.2.2.2.2.1.length : Int) ≤ 4 ∧ (∀ y ∈ x.2.1.2.2.2.2.2.2.2.1, 0 ≤ y ∧ y ≤ 4294967295) ∧ True)) := by
  induction d with
  | zero =>
    intro t t703 t713 t723 p0_03 p0_13 p0_23 p0_33 p0_43 p0_53 p0_63 p0_73 t0 t1 t2 t3 h0 h1 h2 h3 h4 h5 h6 h7 h8 h9 h10 h11 h12 h13 h14 h15 h16 h17 e0
    refine EvP.step (fun N => spec_GoodHeader.l3.eq N _ _ _ _ _ _ _ _ _ _ _) ?_
    refine EvP.ite (fun c1 => ?_) (fun c1 => ?_)
    · refine EvP.chk (and_i (decide_eq_true (by omega)) (decide_eq_true (by omega))) ?_
      have g2 := getD_all (d := 0) (P := fun y => 0 ≤ y ∧ y ≤ 4294967295) h1 (Int.toNat t723) (by simp)
      obtain ⟨g3, g4⟩ := g2
      refine EvP.andK (spec_l2Word_s (by omega) (by omega)) ?_
      intro u30 q5
      refine EvP.sel (fun c6 => ?_) (fun c6 => ?_)
      · exact EvP.some ⟨(fun x e => by cases e; exact ⟨(by (try dsimp only); omega), (by (try dsimp only); omega), (by (try dsimp only); omega), (by (try dsimp only); omega), (by (try dsimp only); omega), (by (try dsimp only); omega), (by (try dsimp only); omega), (by (try dsimp only); omega), (by (try dsimp only); omega), (by (try dsimp only); omega), (by (try dsimp only); omega), h17, trivial⟩), (fun x e => by cases e)⟩
      · omega
    · exact EvP.some ⟨(fun x e => by cases e), (fun x e => by cases e; exact ⟨(by (try dsimp only); omega), (by (try dsimp only); omega), (by (try dsimp only); omega), (by (try dsimp only); omega), (by (try dsimp only); omega), (by (try dsimp only); omega), (by (try dsimp only); omega), (by (try dsimp only); omega), (by (try dsimp only); omega), (by (try dsimp only); omega), (by (try dsimp only); omega), h17, trivial⟩)⟩
  | succ d ih =>
    intro t t703 t713 t723 p0_03 p0_13 p0_23 p0_33 p0_43 p0_53 p0_63 p0_73 t0 t1 t2 t3 h0 h1 h2 h3 h4 h5 h6 h7 h8 h9 h10 h11 h12 h13 h14 h15 h16 h17 e0
    refine EvP.step (fun N => spec_GoodHeader.l3.eq N _ _ _ _ _ _ _ _ _ _ _) ?_
    refine EvP.ite (fun c1 => ?_) (fun c1 => ?_)
    · refine EvP.chk (and_i (decide_eq_true (by omega)) (decide_eq_true (by omega))) ?_
      have g2 := getD_all (d := 0) (P := fun y => 0 ≤ y ∧ y ≤ 4294967295) h1 (Int.toNat t723) (by simp)
      obtain ⟨g3, g4⟩ := g2
      refine EvP.andK (spec_l2Word_s (by omega) (by omega)) ?_
      intro u30 q5
      refine EvP.sel (fun c6 => ?_) (fun c6 => ?_)
      · exact EvP.some ⟨(fun x e => by cases e; exact ⟨(by (try dsimp only); omega), (by (try dsimp only); omega), (by (try dsimp only); omega), (by (try dsimp only); omega), (by (try dsimp only); omega), (by (try dsimp only); omega), (by (try dsimp only); omega), (by (try dsimp only); omega), (by (try dsimp only); omega), (by (try dsimp only); omega), (by (try dsimp only); omega), h17, trivial⟩), (fun x e => by cases e)⟩
      · have f7 := i64w (n := (t723 + 1)) (by omega) (by omega)
        exact ih (t + 1) _ _ _ _ _ _ _ _ _ _ _ (by omega) (by omega) (by omega) (by omega) (by omega) h1 (by omega) (by omega) (by omega) (by omega) (by omega) (by omega) (by omega) (by omega) (by omega) (by omega) (by omega) (by omega) (by omega) (by omega) (by omega) h17 (by omega)
    · exact EvP.some ⟨(fun x e => by cases e), (fun x e => by cases e; exact ⟨(by (try dsimp only); omega), (by (try dsimp only); omega), (by (try dsimp only); omega), (by (try dsimp only); omega), (by (try dsimp only); omega), (by (try dsimp only); omega), (by (try dsimp only); omega), (by (try dsimp only); omega), (by (try dsimp only); omega), (by (try dsimp only); omega), (by (try dsimp only); omega), h17, trivial⟩)⟩

theorem spec_l1In_s4 {n : Int} {lo : Int} {hi : Int} (h0 : 0 ≤ n) (h1 : n ≤ 4) (h2 : 1 ≤ lo) (h3 : lo ≤ 1) (h4 : 20 ≤ hi) (h5 : hi ≤ 20) : EvP (fun N => spec_l1In N n lo hi) (fun r => True) := by
  refine EvP.of (fun N => spec_l1In.eq N _ _ _) ?_
  refine EvP.ite (fun c1 => ?_) (fun c1 => ?_)
  · exact EvP.some trivial
  · exact EvP.some trivial

theorem spec_GoodHeader_s {G_0 : Int} {G_1 : Int} {G_2 : Int} {G_3 : ByteArray} {G_4 : ByteArray} {G_5 : ByteArray} {G_6 : ByteArray} {G_7 : (List Int)} (h0 : 0 ≤ G_0) (h1 : G_0 ≤ 5) (h2 : 0 ≤ G_1) (h3 : G_1 ≤ 16) (h4 : (-1) ≤ G_2) (h5 : G_2 ≤ 4294967296) (h6 : (G_3.size : Int) ≤ 21) (h7 : (G_4.size : Int) ≤ 21) (h8 : (G_5.size : Int) ≤ 79) (h9 : (G_6.size : Int) ≤ 1201) (h10 : (G_7.length : Int) ≤ 4) (h11 : ∀ y ∈ G_7, 0 ≤ y ∧ y ≤ 4294967295) : EvP (fun N => spec_GoodHeader N G_0 G_1 G_2 G_3 G_4 G_5 G_6 G_7) (fun r => True) := by
  refine EvP.of (fun N => spec_GoodHeader.eq N _ _ _ _ _ _ _ _) ?_
  refine EvP.andK (Q := fun r => 0 ≤ r.2.1.1 ∧ r.2.1.1 ≤ 5 ∧ 0 ≤ r.2.1.2.1 ∧ r.2.1.2.1 ≤ 16 ∧ (-1) ≤ r.2.1.2.2.1 ∧ r.2.1.2.2.1 ≤ 4294967296 ∧ (r.2.1.2.2.2.1.size : Int) ≤ 21 ∧ (r.2.1.2.2.2.2.1.size : Int) ≤ 21 ∧ (r.2.1.2.2.2.2.2.1.size : Int) ≤ 79 ∧ (r.2.1.2.2.2.2.2.2.1.size : Int) ≤ 1201 ∧ (r.2.1.2.2.2.2.2.2.2.1.length : Int) ≤ 4 ∧ (∀ y ∈ r.2.1.2.2.2.2.2.2.2.1, 0 ≤ y ∧ y ≤ 4294967295) ∧ True) ?_ ?_
  · refine EvP.ite (fun c1 => ?_) (fun c1 => ?_)
    · exact EvP.some ⟨(by (try dsimp only); omega), (by (try dsimp only); omega), (by (try dsimp only); omega), (by (try dsimp only); omega), (by (try dsimp only); omega), (by (try dsimp only); omega), (by (try dsimp only); omega), (by (try dsimp only); omega), (by (try dsimp only); omega), (by (try dsimp only); omega), (by (try dsimp only); omega), h11, trivial⟩
    · refine EvP.ite (fun c2 => ?_) (fun c2 => ?_)
      · exact EvP.some ⟨(by (try dsimp only); omega), (by (try dsimp only); omega), (by (try dsimp only); omega), (by (try dsimp only); omega), (by (try dsimp only); omega), (by (try dsimp only); omega), (by (try dsimp only); omega), (by (try dsimp only); omega), (by (try dsimp only); omega), (by (try dsimp only); omega), (by (try dsimp only); omega), h11, trivial⟩
      · refine EvP.andK (spec_l1In_s (by omega) (by omega) (by omega) (by omega) (by omega) (by omega)) ?_
        intro u1 q3
        refine EvP.sel (fun c4 => ?_) (fun c4 => ?_)
        · exact EvP.some ⟨(by (try dsimp only); omega), (by (try dsimp only); omega), (by (try dsimp only); omega), (by (try dsimp only); omega), (by (try dsimp only); omega), (by (try dsimp only); omega), (by (try dsimp only); omega), (by (try dsimp only); omega), (by (try dsimp only); omega), (by (try dsimp only); omega), (by (try dsimp only); omega), h11, trivial⟩
        · refine EvP.neg (by omega) ?_
          exact EvP.some ⟨(by (try dsimp only); omega), (by (try dsimp only); omega), (by (try dsimp only); omega), (by (try dsimp only); omega), (by (try dsimp only); omega), (by (try dsimp only); omega), (by (try dsimp only); omega), (by (try dsimp only); omega), (by (try dsimp only); omega), (by (try dsimp only); omega), (by (try dsimp only); omega), h11, trivial⟩
  · intro j2 q6
    obtain ⟨p7, p8, p9, p10, p11, p12, p13, p14, p15, p16, p17, p18, -⟩ := q6
    refine EvP.sel (fun c19 => ?_) (fun c19 => ?_)
    · exact EvP.some trivial
    · refine EvP.andK (Q := fun r => 0 ≤ r.2.1.1 ∧ r.2.1.1 ≤ 5 ∧ 0 ≤ r.2.1.2.1 ∧ r.2.1.2.1 ≤ 16 ∧ (-1) ≤ r.2.1.2.2.1 ∧ r.2.1.2.2.1 ≤ 4294967296 ∧ (r.2.1.2.2.2.1.size : Int) ≤ 21 ∧ (r.2.1.2.2.2.2.1.size : Int) ≤ 21 ∧ (r.2.1.2.2.2.2.2.1.size : Int) ≤ 79 ∧ (r.2.1.2.2.2.2.2.2.1.size : Int) ≤ 1201 ∧ (r.2.1.2.2.2.2.2.2.2.1.length : Int) ≤ 4 ∧ (∀ y ∈ r.2.1.2.2.2.2.2.2.2.1, 0 ≤ y ∧ y ≤ 4294967295) ∧ True) ?_ ?_
      · refine EvP.nite (fun c20 => ?_) (fun c20 => ?_)
        · have f21 : (⟨#[]⟩ : ByteArray).size = 0 := rfl
          refine EvP.nite (fun c22 => ?_) (fun c22 => ?_)
          · exact EvP.some ⟨(by (try dsimp only); omega), (by (try dsimp only); omega), (by (try dsimp only); omega), (by (try dsimp only); omega), (by (try dsimp only); omega), (by (try dsimp only); omega), (by (try dsimp only); omega), (by (try dsimp only); omega), (by (try dsimp only); omega), (by (try dsimp only); omega), (by (try dsimp only); omega), p18, trivial⟩
          · refine EvP.nite (fun c23 => ?_) (fun c23 => ?_)
            · exact EvP.some ⟨(by (try dsimp only); omega), (by (try dsimp only); omega), (by (try dsimp only); omega), (by (try dsimp only); omega), (by (try dsimp only); omega), (by (try dsimp only); omega), (by (try dsimp only); omega), (by (try dsimp only); omega), (by (try dsimp only); omega), (by (try dsimp only); omega), (by (try dsimp only); omega), p18, trivial⟩
            · exact EvP.some ⟨(by (try dsimp only); omega), (by (try dsimp only); omega), (by (try dsimp only); omega), (by (try dsimp only); omega), (by (try dsimp only); omega), (by (try dsimp only); omega), (by (try dsimp only); omega), (by (try dsimp only); omega), (by (try dsimp only); omega), (by (try dsimp only); omega), (by (try dsimp only); omega), p18, trivial⟩
        · refine EvP.npos (by omega) ?_
          exact EvP.some ⟨(by (try dsimp only); omega), (by (try dsimp only); omega), (by (try dsimp only); omega), (by (try dsimp only); omega), (by (try dsimp only); omega), (by (try dsimp only); omega), (by (try dsimp only); omega), (by (try dsimp only); omega), (by (try dsimp only); omega), (by (try dsimp only); omega), (by (try dsimp only); omega), p18, trivial⟩
      · intro j3 q25
        obtain ⟨p26, p27, p28, p29, p30, p31, p32, p33, p34, p35, p36, p37, -⟩ := q25
        refine EvP.sel (fun c38 => ?_) (fun c38 => ?_)
        · exact EvP.some trivial
        · refine EvP.andK (Q := fun r => (∀ x, r = .inl x → 0 ≤ x.2.1.1 ∧ x.2.1.1 ≤ 4 ∧ 0 ≤ x.2.1.2.1 ∧ x.2.1.2.1 ≤ 16 ∧ (-1) ≤ x.2.1.2.2.1 ∧ x.2.1.2.2.1 ≤ 4294967296 ∧ (x.2.1.2.2.2.1.size : Int) ≤ 21 ∧ (x.2.1.2.2.2.2.1.size : Int) ≤ 21 ∧ (x.2.1.2.2.2.2.2.1.size : Int) ≤ 79 ∧ (x.2.1.2.2.2.2.2.2.1.size : Int) ≤ 1201 ∧ (x.2.1.2.2.2.2.2.2.2.1.length : Int) ≤ 4 ∧ (∀ y ∈ x.2.1.2.2.2.2.2.2.2.1, 0 ≤ y ∧ y ≤ 4294967295) ∧ True) ∧ (∀ x, r = .inr x → 0 ≤ x.2.1.1 ∧ x.2.1.1 ≤ 5 ∧ 0 ≤ x.2.1.2.1 ∧ x.2.1.2.1 ≤ 16 ∧ (-1) ≤ x.2.1.2.2.1 ∧ x.2.1.2.2.1 ≤ 4294967296 ∧ (x.2.1.2.2.2.1.size : Int) ≤ 21 ∧ (x.2.1.2.2.2.2.1.size : Int) ≤ 21 ∧ (x.2.1.2.2.2.2.2.1.size : Int) ≤ 79 ∧ (x.2.1.2.2.2.2.2.2.1.size : Int) ≤ 1201 ∧ (x.2.1.2.2.2.2.2.2.2.1.length : Int) ≤ 4 ∧ (∀ y ∈ x.2.1.2.2.2.2.2.2.2.1, 0 ≤ y ∧ y ≤ 4294967295) ∧ True)) ?_ ?_
          · refine EvP.ite (fun c39 => ?_) (fun c39 => ?_)
            · refine EvP.ite (fun c40 => ?_) (fun c40 => ?_)
              · refine EvP.andK (Q := fun r => 0 ≤ r.2.1.1 ∧ r.2.1.1 ≤ 0 ∧ 0 ≤ r.2.1.2.1 ∧ r.2.1.2.1 ≤ 16 ∧ (-1) ≤ r.2.1.2.2.1 ∧ r.2.1.2.2.1 ≤ 4294967296 ∧ (r.2.1.2.2.2.1.size : Int) ≤ 21 ∧ (r.2.1.2.2.2.2.1.size : Int) ≤ 21 ∧ (r.2.1.2.2.2.2.2.1.size : Int) ≤ 79 ∧ (r.2.1.2.2.2.2.2.2.1.size : Int) ≤ 1201 ∧ (r.2.1.2.2.2.2.2.2.2.1.length : Int) ≤ 4 ∧ (∀ y ∈ r.2.1.2.2.2.2.2.2.2.1, 0 ≤ y ∧ y ≤ 4294967295) ∧ True) ?_ ?_
                · refine EvP.andK (spec_l1In_s2 (by omega) (by omega) (by omega) (by omega) (by omega) (by omega)) ?_
                  intro u4 q41
                  refine EvP.sel (fun c42 => ?_) (fun c42 => ?_)
                  · have f43 : (⟨#[]⟩ : ByteArray).size = 0 := rfl
                    exact EvP.some ⟨(by (try dsimp only); omega), (by (try dsimp only); omega), (by (try dsimp only); omega), (by (try dsimp only); omega), (by (try dsimp only); omega), (by (try dsimp only); omega), (by (try dsimp only); omega), (by (try dsimp only); omega), (by (try dsimp only); omega), (by (try dsimp only); omega), (by (try dsimp only); omega), p37, trivial⟩
                  · exact EvP.some ⟨(by (try dsimp only); omega), (by (try dsimp only); omega), (by (try dsimp only); omega), (by (try dsimp only); omega), (by (try dsimp only); omega), (by (try dsimp only); omega), (by (try dsimp only); omega), (by (try dsimp only); omega), (by (try dsimp only); omega), (by (try dsimp only); omega), (by (try dsimp only); omega), p37, trivial⟩
                · intro j5 q44
                  obtain ⟨p45, p46, p47, p48, p49, p50, p51, p52, p53, p54, p55, p56, -⟩ := q44
                  exact EvP.some ⟨(fun x e => by cases e; exact ⟨(by (try dsimp only); omega), (by (try dsimp only); omega), (by (try dsimp only); omega), (by (try dsimp only); omega), (by (try dsimp only); omega), (by (try dsimp only); omega), (by (try dsimp only); omega), (by (try dsimp only); omega), (by (try dsimp only); omega), (by (try dsimp only); omega), (by (try dsimp only); omega), p56, trivial⟩), (fun x e => by cases e)⟩
              · refine EvP.neg (by omega) ?_
                exact EvP.some ⟨(fun x e => by cases e), (fun x e => by cases e; exact ⟨(by (try dsimp only); omega), (by (try dsimp only); omega), (by (try dsimp only); omega), (by (try dsimp only); omega), (by (try dsimp only); omega), (by (try dsimp only); omega), (by (try dsimp only); omega), (by (try dsimp only); omega), (by (try dsimp only); omega), (by (try dsimp only); omega), (by (try dsimp only); omega), p37, trivial⟩)⟩
            · refine EvP.ite (fun c58 => ?_) (fun c58 => ?_)
              · refine EvP.ite (fun c59 => ?_) (fun c59 => ?_)
                · refine EvP.andK (Q := fun r => 1 ≤ r.2.1.1 ∧ r.2.1.1 ≤ 1 ∧ 0 ≤ r.2.1.2.1 ∧ r.2.1.2.1 ≤ 16 ∧ (-1) ≤ r.2.1.2.2.1 ∧ r.2.1.2.2.1 ≤ 4294967296 ∧ (r.2.1.2.2.2.1.size : Int) ≤ 21 ∧ (r.2.1.2.2.2.2.1.size : Int) ≤ 21 ∧ (r.2.1.2.2.2.2.2.1.size : Int) ≤ 79 ∧ (r.2.1.2.2.2.2.2.2.1.size : Int) ≤ 1201 ∧ (r.2.1.2.2.2.2.2.2.2.1.length : Int) ≤ 4 ∧ (∀ y ∈ r.2.1.2.2.2.2.2.2.2.1, 0 ≤ y ∧ y ≤ 4294967295) ∧ True) ?_ ?_
                  · refine EvP.andK (spec_l1In_s2 (by omega) (by omega) (by omega) (by omega) (by omega) (by omega)) ?_
                    intro u12 q60
                    refine EvP.sel (fun c61 => ?_) (fun c61 => ?_)
                    · have f62 : (⟨#[]⟩ : ByteArray).size = 0 := rfl
                      exact EvP.some ⟨(by (try dsimp only); omega), (by (try dsimp only); omega), (by (try dsimp only); omega), (by (try dsimp only); omega), (by (try dsimp only); omega), (by (try dsimp only); omega), (by (try dsimp only); omega), (by (try dsimp only); omega), (by (try dsimp only); omega), (by (try dsimp only); omega), (by (try dsimp only); omega), p37, trivial⟩
                    · exact EvP.some ⟨(by (try dsimp only); omega), (by (try dsimp only); omega), (by (try dsimp only); omega), (by (try dsimp only); omega), (by (try dsimp only); omega), (by (try dsimp only); omega), (by (try dsimp only); omega), (by (try dsimp only); omega), (by (try dsimp only); omega), (by (try dsimp only); omega), (by (try dsimp only); omega), p37, trivial⟩
                  · intro j13 q63
                    obtain ⟨p64, p65, p66, p67, p68, p69, p70, p71, p72, p73, p74, p75, -⟩ := q63
                    exact EvP.some ⟨(fun x e => by cases e; exact ⟨(by (try dsimp only); omega), (by (try dsimp only); omega), (by (try dsimp only); omega), (by (try dsimp only); omega), (by (try dsimp only); omega), (by (try dsimp only); omega), (by (try dsimp only); omega), (by (try dsimp only); omega), (by (try dsimp only); omega), (by (try dsimp only); omega), (by (try dsimp only); omega), p75, trivial⟩), (fun x e => by cases e)⟩
                · refine EvP.neg (by omega) ?_
                  exact EvP.some ⟨(fun x e => by cases e), (fun x e => by cases e; exact ⟨(by (try dsimp only); omega), (by (try dsimp only); omega), (by (try dsimp only); omega), (by (try dsimp only); omega), (by (try dsimp only); omega), (by (try dsimp only); omega), (by (try dsimp only); omega), (by (try dsimp only); omega), (by (try dsimp only); omega), (by (try dsimp only); omega), (by (try dsimp only); omega), p37, trivial⟩)⟩
              · refine EvP.ite (fun c77 => ?_) (fun c77 => ?_)
                · refine EvP.ite (fun c78 => ?_) (fun c78 => ?_)
                  · refine EvP.andK (Q := fun r => 2 ≤ r.2.1.1 ∧ r.2.1.1 ≤ 2 ∧ 0 ≤ r.2.1.2.1 ∧ r.2.1.2.1 ≤ 16 ∧ (-1) ≤ r.2.1.2.2.1 ∧ r.2.1.2.2.1 ≤ 4294967296 ∧ (r.2.1.2.2.2.1.size : Int) ≤ 21 ∧ (r.2.1.2.2.2.2.1.size : Int) ≤ 21 ∧ (r.2.1.2.2.2.2.2.1.size : Int) ≤ 79 ∧ (r.2.1.2.2.2.2.2.2.1.size : Int) ≤ 1201 ∧ (r.2.1.2.2.2.2.2.2.2.1.length : Int) ≤ 4 ∧ (∀ y ∈ r.2.1.2.2.2.2.2.2.2.1, 0 ≤ y ∧ y ≤ 4294967295) ∧ True) ?_ ?_
                    · refine EvP.andK (spec_l1In_s2 (by omega) (by omega) (by omega) (by omega) (by omega) (by omega)) ?_
                      intro u20 q79
                      refine EvP.sel (fun c80 => ?_) (fun c80 => ?_)
                      · have f81 : (⟨#[]⟩ : ByteArray).size = 0 := rfl
                        exact EvP.some ⟨(by (try dsimp only); omega), (by (try dsimp only); omega), (by (try dsimp only); omega), (by (try dsimp only); omega), (by (try dsimp only); omega), (by (try dsimp only); omega), (by (try dsimp only); omega), (by (try dsimp only); omega), (by (try dsimp only); omega), (by (try dsimp only); omega), (by (try dsimp only); omega), p37, trivial⟩
                      · exact EvP.some ⟨(by (try dsimp only); omega), (by (try dsimp only); omega), (by (try dsimp only); omega), (by (try dsimp only); omega), (by (try dsimp only); omega), (by (try dsimp only); omega), (by (try dsimp only); omega), (by (try dsimp only); omega), (by (try dsimp only); omega), (by (try dsimp only); omega), (by (try dsimp only); omega), p37, trivial⟩
                    · intro j21 q82
                      obtain ⟨p83, p84, p85, p86, p87, p88, p89, p90, p91, p92, p93, p94, -⟩ := q82
                      exact EvP.some ⟨(fun x e => by cases e; exact ⟨(by (try dsimp only); omega), (by (try dsimp only); omega), (by (try dsimp only); omega), (by (try dsimp only); omega), (by (try dsimp only); omega), (by (try dsimp only); omega), (by (try dsimp only); omega), (by (try dsimp only); omega), (by (try dsimp only); omega), (by (try dsimp only); omega), (by (try dsimp only); omega), p94, trivial⟩), (fun x e => by cases e)⟩
                  · refine EvP.neg (by omega) ?_
                    exact EvP.some ⟨(fun x e => by cases e), (fun x e => by cases e; exact ⟨(by (try dsimp only); omega), (by (try dsimp only); omega), (by (try dsimp only); omega), (by (try dsimp only); omega), (by (try dsimp only); omega), (by (try dsimp only); omega), (by (try dsimp only); omega), (by (try dsimp only); omega), (by (try dsimp only); omega), (by (try dsimp only); omega), (by (try dsimp only); omega), p37, trivial⟩)⟩
                · refine EvP.ite (fun c96 => ?_) (fun c96 => ?_)
                  · refine EvP.andK (Q := fun r => 3 ≤ r.2.1.1 ∧ r.2.1.1 ≤ 3 ∧ 0 ≤ r.2.1.2.1 ∧ r.2.1.2.1 ≤ 16 ∧ (-1) ≤ r.2.1.2.2.1 ∧ r.2.1.2.2.1 ≤ 4294967296 ∧ (r.2.1.2.2.2.1.size : Int) ≤ 21 ∧ (r.2.1.2.2.2.2.1.size : Int) ≤ 21 ∧ (r.2.1.2.2.2.2.2.1.size : Int) ≤ 79 ∧ (r.2.1.2.2.2.2.2.2.1.size : Int) ≤ 1201 ∧ (r.2.1.2.2.2.2.2.2.2.1.length : Int) ≤ 4 ∧ (∀ y ∈ r.2.1.2.2.2.2.2.2.2.1, 0 ≤ y ∧ y ≤ 4294967295) ∧ True) ?_ ?_
                    · refine EvP.andK (spec_l1In_s2 (by omega) (by omega) (by omega) (by omega) (by omega) (by omega)) ?_
                      intro u28 q97
                      refine EvP.sel (fun c98 => ?_) (fun c98 => ?_)
                      · have f99 : (⟨#[]⟩ : ByteArray).size = 0 := rfl
                        exact EvP.some ⟨(by (try dsimp only); omega), (by (try dsimp only); omega), (by (try dsimp only); omega), (by (try dsimp only); omega), (by (try dsimp only); omega), (by (try dsimp only); omega), (by (try dsimp only); omega), (by (try dsimp only); omega), (by (try dsimp only); omega), (by (try dsimp only); omega), (by (try dsimp only); omega), p37, trivial⟩
                      · exact EvP.some ⟨(by (try dsimp only); omega), (by (try dsimp only); omega), (by (try dsimp only); omega), (by (try dsimp only); omega), (by (try dsimp only); omega), (by (try dsimp only); omega), (by (try dsimp only); omega), (by (try dsimp only); omega), (by (try dsimp only); omega), (by (try dsimp only); omega), (by (try dsimp only); omega), p37, trivial⟩
                    · intro j29 q100
                      obtain ⟨p101, p102, p103, p104, p105, p106, p107, p108, p109, p110, p111, p112, -⟩ := q100
                      exact EvP.some ⟨(fun x e => by cases e; exact ⟨(by (try dsimp only); omega), (by (try dsimp only); omega), (by (try dsimp only); omega), (by (try dsimp only); omega), (by (try dsimp only); omega), (by (try dsimp only); omega), (by (try dsimp only); omega), (by (try dsimp only); omega), (by (try dsimp only); omega), (by (try dsimp only); omega), (by (try dsimp only); omega), p112, trivial⟩), (fun x e => by cases e)⟩
                  · refine EvP.ite (fun c113 => ?_) (fun c113 => ?_)
                    · refine EvP.andK (spec_GoodHeader_l3_s 4 0 _ _ _ _ _ _ _ _ _ _ _ (by omega) (by omega) (by omega) (by omega) (by omega) p37 (by omega) (by omega) (by omega) (by omega) (by omega) (by omega) (by omega) (by omega) (by omega) (by omega) (by omega) (by omega) (by omega) (by omega) (by omega) p37 (by omega)) ?_
                      intro l31 q114
                      refine EvP.or (fun x32 e115 => ?_) (fun x33 e116 => ?_)
                      · have r117 := q114.1 x32 (by rw [e115])
                        obtain ⟨p118, p119, p120, p121, p122, p123, p124, p125, p126, p127, p128, p129, -⟩ := r117
                        exact EvP.some ⟨(fun x e => by cases e; exact ⟨(by (try dsimp only); omega), (by (try dsimp only); omega), (by (try dsimp only); omega), (by (try dsimp only); omega), (by (try dsimp only); omega), (by (try dsimp only); omega), (by (try dsimp only); omega), (by (try dsimp only); omega), (by (try dsimp only); omega), (by (try dsimp only); omega), (by (try dsimp only); omega), p129, trivial⟩), (fun x e => by cases e)⟩
                      · have r130 := q114.2 x33 (by rw [e116])
                        obtain ⟨p131, p132, p133, p134, p135, p136, p137, p138, p139, p140, p141, p142, -⟩ := r130
                        refine EvP.andK (Q := fun r => 4 ≤ r.2.1.1 ∧ r.2.1.1 ≤ 4 ∧ 0 ≤ r.2.1.2.1 ∧ r.2.1.2.1 ≤ 16 ∧ (-1) ≤ r.2.1.2.2.1 ∧ r.2.1.2.2.1 ≤ 4294967296 ∧ (r.2.1.2.2.2.1.size : Int) ≤ 21 ∧ (r.2.1.2.2.2.2.1.size : Int) ≤ 21 ∧ (r.2.1.2.2.2.2.2.1.size : Int) ≤ 79 ∧ (r.2.1.2.2.2.2.2.2.1.size : Int) ≤ 1201 ∧ (r.2.1.2.2.2.2.2.2.2.1.length : Int) ≤ 4 ∧ (∀ y ∈ r.2.1.2.2.2.2.2.2.2.1, 0 ≤ y ∧ y ≤ 4294967295) ∧ (r.1.1 = true → x33.2.1.2.2.1 = 0) ∧ True) ?_ ?_
                        · refine EvP.ite (fun c143 => ?_) (fun c143 => ?_)
                          · have f144 : (⟨#[]⟩ : ByteArray).size = 0 := rfl
                            refine EvP.ite (fun c145 => ?_) (fun c145 => ?_)
                            · refine EvP.andK (spec_l1In_s4 (by omega) (by omega) (by omega) (by omega) (by omega) (by omega)) ?_
                              intro u34 q146
                              exact EvP.some ⟨(by (try dsimp only); omega), (by (try dsimp only); omega), (by (try dsimp only); omega), (by (try dsimp only); omega), (by (try dsimp only); omega), (by (try dsimp only); omega), (by (try dsimp only); omega), (by (try dsimp only); omega), (by (try dsimp only); omega), (by (try dsimp only); omega), (by (try dsimp only); omega), p142, (fun h => by omega), trivial⟩
                            · exact EvP.some ⟨(by (try dsimp only); omega), (by (try dsimp only); omega), (by (try dsimp only); omega), (by (try dsimp only); omega), (by (try dsimp only); omega), (by (try dsimp only); omega), (by (try dsimp only); omega), (by (try dsimp only); omega), (by (try dsimp only); omega), (by (try dsimp only); omega), (by (try dsimp only); omega), p142, (fun h => by cases h), trivial⟩
                          · exact EvP.some ⟨(by (try dsimp only); omega), (by (try dsimp only); omega), (by (try dsimp only); omega), (by (try dsimp only); omega), (by (try dsimp only); omega), (by (try dsimp only); omega), (by (try dsimp only); omega), (by (try dsimp only); omega), (by (try dsimp only); omega), (by (try dsimp only); omega), (by (try dsimp only); omega), p142, (fun h => by cases h), trivial⟩
                        · intro j35 q147
                          obtain ⟨p148, p149, p150, p151, p152, p153, p154, p155, p156, p157, p158, p159, p160, -⟩ := q147
                          exact EvP.some ⟨(fun x e => by cases e; exact ⟨(by (try dsimp only); omega), (by (try dsimp only); omega), (by (try dsimp only); omega), (by (try dsimp only); omega), (by (try dsimp only); omega), (by (try dsimp only); omega), (by (try dsimp only); omega), (by (try dsimp only); omega), (by (try dsimp only); omega), (by (try dsimp only); omega), (by (try dsimp only); omega), p159, trivial⟩), (fun x e => by cases e)⟩
                    · exact EvP.some ⟨(fun x e => by cases e), (fun x e => by cases e; exact ⟨(by (try dsimp only); omega), (by (try dsimp only); omega), (by (try dsimp only); omega), (by (try dsimp only); omega), (by (try dsimp only); omega), (by (try dsimp only); omega), (by (try dsimp only); omega), (by (try dsimp only); omega), (by (try dsimp only); omega), (by (try dsimp only); omega), (by (try dsimp only); omega), p37, trivial⟩)⟩
          · intro j36 q161
            refine EvP.or (fun x37 e162 => ?_) (fun x38 e163 => ?_)
            · have r164 := q161.1 x37 (by rw [e162])
              obtain ⟨p165, p166, p167, p168, p169, p170, p171, p172, p173, p174, p175, p176, -⟩ := r164
              exact EvP.some trivial
            · have r177 := q161.2 x38 (by rw [e163])
              obtain ⟨p178, p179, p180, p181, p182, p183, p184, p185, p186, p187, p188, p189, -⟩ := r177
              refine EvP.ite (fun c190 => ?_) (fun c190 => ?_)
              · have f191 : (⟨#[]⟩ : ByteArray).size = 0 := rfl
                refine EvP.ite (fun c192 => ?_) (fun c192 => ?_)
                · exact EvP.some trivial
                · exact EvP.some trivial
              · exact EvP.some trivial

theorem spec_l1Fixed_l0_s (d : Nat) : ∀ (t : Int) (n1 : Int) (k : Int) (p0 : (List Int)), 0 ≤ t → t ≤ 1 → t + (k - 0 + 1) ≤ 1 → k - 0 + 1 ≤ (d : Int) → (-9223372036854775808) ≤ n1 → n1 ≤ 9223372036854775807 → (-2) ≤ k → k ≤ 0 → (p0.length : Int) ≤ t → (∀ y ∈ p0, 0 ≤ y ∧ y ≤ 255) → EvP (fun N => spec_l1Fixed.l0 N n1 k p0) (fun r => (r.2.1.length : Int) ≤ 1 ∧ (∀ y ∈ r.2.1, 0 ≤ y ∧ y ≤ 255) ∧ True) := by
  induction d with
  | zero =>
    intro t n1 k p0 t0 t1 t2 t3 h0 h1 h2 h3 h4 h5
    refine EvP.step (fun N => spec_l1Fixed.l0.eq N _ _ _) ?_
    refine EvP.ite (fun c1 => ?_) (fun c1 => ?_)
    · have f2 := i64w (n := (8 * k)) (by omega) (by omega)
      have f3 := u64i (n := (IntKind.i64.wrap (8 * k))) (by omega) (by omega)
      refine EvP.chk (decide_eq_true (by omega)) ?_
      refine EvP.chk (decide_eq_true (by unfold most; omega)) ?_
      omega
    · exact EvP.some ⟨(by (try dsimp only); omega), h5, trivial⟩
  | succ d ih =>
    intro t n1 k p0 t0 t1 t2 t3 h0 h1 h2 h3 h4 h5
    refine EvP.step (fun N => spec_l1Fixed.l0.eq N _ _ _) ?_
    refine EvP.ite (fun c1 => ?_) (fun c1 => ?_)
    · have f2 := i64w (n := (8 * k)) (by omega) (by omega)
      have f3 := u64i (n := (IntKind.i64.wrap (8 * k))) (by omega) (by omega)
      refine EvP.chk (decide_eq_true (by omega)) ?_
      refine EvP.chk (decide_eq_true (by unfold most; omega)) ?_
      have f4 := i64w (n := (k - 1)) (by omega) (by omega)
      have f5 : ([(IntKind.u8.wrap (shrI .i64 n1 (IntKind.u64.wrap (IntKind.i64.wrap (8 * k)))))] : List Int).length = 1 := rfl
      have f6 := u8_range ((shrI .i64 n1 (IntKind.u64.wrap (IntKind.i64.wrap (8 * k)))))
      have f7 : (p0 ++ [(IntKind.u8.wrap (shrI .i64 n1 (IntKind.u64.wrap (IntKind.i64.wrap (8 * k)))))]).length = p0.length + [(IntKind.u8.wrap (shrI .i64 n1 (IntKind.u64.wrap (IntKind.i64.wrap (8 * k)))))].length := List.length_append
      exact ih (t + 1) _ _ _ (by omega) (by omega) (by omega) (by omega) (by omega) (by omega) (by omega) (by omega) (by omega) (all_app h5 (all_cons ⟨(by (try dsimp only); omega), (by (try dsimp only); omega)⟩ all_nil))
    · exact EvP.some ⟨(by (try dsimp only); omega), h5, trivial⟩

theorem spec_l1Fixed_s {n : Int} {many : Int} (h0 : (-9223372036854775808) ≤ n) (h1 : n ≤ 9223372036854775807) (h2 : 1 ≤ many) (h3 : many ≤ 1) : EvP (fun N => spec_l1Fixed N n many) (fun r => (r.1.1.size : Int) ≤ 1 ∧ True) := by
  refine EvP.of (fun N => spec_l1Fixed.eq N _ _) ?_
  have f1 := i64w (n := (many - 1)) (by omega) (by omega)
  have f2 : ([] : List Int).length = 0 := rfl
  refine EvP.andK (spec_l1Fixed_l0_s 1 0 _ _ _ (by omega) (by omega) (by omega) (by omega) (by omega) (by omega) (by omega) (by omega) (by omega) all_nil) ?_
  intro l1 q3
  obtain ⟨p4, p5, -⟩ := q3
  have f6 := strL_size l1.2.1
  exact EvP.some ⟨(by (try dsimp only); omega), trivial⟩

theorem spec_l1Fixed_l0_s2 (d : Nat) : ∀ (t : Int) (n1 : Int) (k : Int) (p0 : (List Int)), 0 ≤ t → t ≤ 4 → t + (k - 0 + 1) ≤ 4 → k - 0 + 1 ≤ (d : Int) → 0 ≤ n1 → n1 ≤ 0 → (-2) ≤ k → k ≤ 3 → (p0.length : Int) ≤ t → (∀ y ∈ p0, 0 ≤ y ∧ y ≤ 255) → EvP (fun N => spec_l1Fixed.l0 N n1 k p0) (fun r => (r.2.1.length : Int) ≤ 4 ∧ (∀ y ∈ r.2.1, 0 ≤ y ∧ y ≤ 255) ∧ True) := by
  induction d with
  | zero =>
    intro t n1 k p0 t0 t1 t2 t3 h0 h1 h2 h3 h4 h5
    refine EvP.step (fun N => spec_l1Fixed.l0.eq N _ _ _) ?_
    refine EvP.ite (fun c1 => ?_) (fun c1 => ?_)
    · have f2 := i64w (n := (8 * k)) (by omega) (by omega)
      have f3 := u64i (n := (IntKind.i64.wrap (8 * k))) (by omega) (by omega)
      refine EvP.chk (decide_eq_true (by omega)) ?_
      refine EvP.chk (decide_eq_true (by unfold most; omega)) ?_
      omega
    · exact EvP.some ⟨(by (try dsimp only); omega), h5, trivial⟩
  | succ d ih =>
    intro t n1 k p0 t0 t1 t2 t3 h0 h1 h2 h3 h4 h5
    refine EvP.step (fun N => spec_l1Fixed.l0.eq N _ _ _) ?_
    refine EvP.ite (fun c1 => ?_) (fun c1 => ?_)
    · have f2 := i64w (n := (8 * k)) (by omega) (by omega)
      have f3 := u64i (n := (IntKind.i64.wrap (8 * k))) (by omega) (by omega)
      refine EvP.chk (decide_eq_true (by omega)) ?_
      refine EvP.chk (decide_eq_true (by unfold most; omega)) ?_
      have f4 := i64w (n := (k - 1)) (by omega) (by omega)
      have f5 : ([(IntKind.u8.wrap (shrI .i64 n1 (IntKind.u64.wrap (IntKind.i64.wrap (8 * k)))))] : List Int).length = 1 := rfl
      have f6 := u8_range ((shrI .i64 n1 (IntKind.u64.wrap (IntKind.i64.wrap (8 * k)))))
      have f7 : (p0 ++ [(IntKind.u8.wrap (shrI .i64 n1 (IntKind.u64.wrap (IntKind.i64.wrap (8 * k)))))]).length = p0.length + [(IntKind.u8.wrap (shrI .i64 n1 (IntKind.u64.wrap (IntKind.i64.wrap (8 * k)))))].length := List.length_append
      exact ih (t + 1) _ _ _ (by omega) (by omega) (by omega) (by omega) (by omega) (by omega) (by omega) (by omega) (by omega) (all_app h5 (all_cons ⟨(by (try dsimp only); omega), (by (try dsimp only); omega)⟩ all_nil))
    · exact EvP.some ⟨(by (try dsimp only); omega), h5, trivial⟩

theorem spec_l1Fixed_s2 {n : Int} {many : Int} (h0 : 0 ≤ n) (h1 : n ≤ 0) (h2 : 4 ≤ many) (h3 : many ≤ 4) : EvP (fun N => spec_l1Fixed N n many) (fun r => (r.1.1.size : Int) ≤ 4 ∧ True) := by
  refine EvP.of (fun N => spec_l1Fixed.eq N _ _) ?_
  have f1 := i64w (n := (many - 1)) (by omega) (by omega)
  have f2 : ([] : List Int).length = 0 := rfl
  refine EvP.andK (spec_l1Fixed_l0_s2 4 0 _ _ _ (by omega) (by omega) (by omega) (by omega) (by omega) (by omega) (by omega) (by omega) (by omega) all_nil) ?_
  intro l1 q3
  obtain ⟨p4, p5, -⟩ := q3
  have f6 := strL_size l1.2.1
  exact EvP.some ⟨(by (try dsimp only); omega), trivial⟩

theorem spec_l1Fixed_l0_s3 (d : Nat) : ∀ (t : Int) (n1 : Int) (k : Int) (p0 : (List Int)), 0 ≤ t → t ≤ 1 → t + (k - 0 + 1) ≤ 1 → k - 0 + 1 ≤ (d : Int) → 0 ≤ n1 → n1 ≤ 21 → (-2) ≤ k → k ≤ 0 → (p0.length : Int) ≤ t → (∀ y ∈ p0, 0 ≤ y ∧ y ≤ 255) → EvP (fun N => spec_l1Fixed.l0 N n1 k p0) (fun r => (r.2.1.length : Int) ≤ 1 ∧ (∀ y ∈ r.2.1, 0 ≤ y ∧ y ≤ 255) ∧ True) := by
  induction d with
  | zero =>
    intro t n1 k p0 t0 t1 t2 t3 h0 h1 h2 h3 h4 h5
    refine EvP.step (fun N => spec_l1Fixed.l0.eq N _ _ _) ?_
    refine EvP.ite (fun c1 => ?_) (fun c1 => ?_)
    · have f2 := i64w (n := (8 * k)) (by omega) (by omega)
      have f3 := u64i (n := (IntKind.i64.wrap (8 * k))) (by omega) (by omega)
      refine EvP.chk (decide_eq_true (by omega)) ?_
      refine EvP.chk (decide_eq_true (by unfold most; omega)) ?_
      omega
    · exact EvP.some ⟨(by (try dsimp only); omega), h5, trivial⟩
  | succ d ih =>
    intro t n1 k p0 t0 t1 t2 t3 h0 h1 h2 h3 h4 h5
    refine EvP.step (fun N => spec_l1Fixed.l0.eq N _ _ _) ?_
    refine EvP.ite (fun c1 => ?_) (fun c1 => ?_)
    · have f2 := i64w (n := (8 * k)) (by omega) (by omega)
      have f3 := u64i (n := (IntKind.i64.wrap (8 * k))) (by omega) (by omega)
      refine EvP.chk (decide_eq_true (by omega)) ?_
      refine EvP.chk (decide_eq_true (by unfold most; omega)) ?_
      have f4 := i64w (n := (k - 1)) (by omega) (by omega)
      have f5 : ([(IntKind.u8.wrap (shrI .i64 n1 (IntKind.u64.wrap (IntKind.i64.wrap (8 * k)))))] : List Int).length = 1 := rfl
      have f6 := u8_range ((shrI .i64 n1 (IntKind.u64.wrap (IntKind.i64.wrap (8 * k)))))
      have f7 : (p0 ++ [(IntKind.u8.wrap (shrI .i64 n1 (IntKind.u64.wrap (IntKind.i64.wrap (8 * k)))))]).length = p0.length + [(IntKind.u8.wrap (shrI .i64 n1 (IntKind.u64.wrap (IntKind.i64.wrap (8 * k)))))].length := List.length_append
      exact ih (t + 1) _ _ _ (by omega) (by omega) (by omega) (by omega) (by omega) (by omega) (by omega) (by omega) (by omega) (all_app h5 (all_cons ⟨(by (try dsimp only); omega), (by (try dsimp only); omega)⟩ all_nil))
    · exact EvP.some ⟨(by (try dsimp only); omega), h5, trivial⟩

theorem spec_l1Fixed_s3 {n : Int} {many : Int} (h0 : 0 ≤ n) (h1 : n ≤ 21) (h2 : 1 ≤ many) (h3 : many ≤ 1) : EvP (fun N => spec_l1Fixed N n many) (fun r => (r.1.1.size : Int) ≤ 1 ∧ True) := by
  refine EvP.of (fun N => spec_l1Fixed.eq N _ _) ?_
  have f1 := i64w (n := (many - 1)) (by omega) (by omega)
  have f2 : ([] : List Int).length = 0 := rfl
  refine EvP.andK (spec_l1Fixed_l0_s3 1 0 _ _ _ (by omega) (by omega) (by omega) (by omega) (by omega) (by omega) (by omega) (by omega) (by omega) all_nil) ?_
  intro l1 q3
  obtain ⟨p4, p5, -⟩ := q3
  have f6 := strL_size l1.2.1
  exact EvP.some ⟨(by (try dsimp only); omega), trivial⟩

theorem spec_l2Id_s {s : ByteArray} (h0 : (s.size : Int) ≤ 21) : EvP (fun N => spec_l2Id N s) (fun r => (r.1.1.size : Int) ≤ 22 ∧ True) := by
  refine EvP.of (fun N => spec_l2Id.eq N _) ?_
  refine EvP.andK (spec_l1Fixed_s3 (by omega) (by omega) (by omega) (by omega)) ?_
  intro u1 q1
  obtain ⟨p2, -⟩ := q1
  refine EvP.chk (decide_eq_true (by omega)) ?_
  have f3 : (u1.1.1 ++ s).size = u1.1.1.size + s.size := ByteArray.size_append
  exact EvP.some ⟨(by (try dsimp only); omega), trivial⟩

theorem spec_l1Fixed_l0_s4 (d : Nat) : ∀ (t : Int) (n1 : Int) (k : Int) (p0 : (List Int)), 0 ≤ t → t ≤ 4 → t + (k - 0 + 1) ≤ 4 → k - 0 + 1 ≤ (d : Int) → 0 ≤ n1 → n1 ≤ 4294967295 → (-2) ≤ k → k ≤ 3 → (p0.length : Int) ≤ t → (∀ y ∈ p0, 0 ≤ y ∧ y ≤ 255) → EvP (fun N => spec_l1Fixed.l0 N n1 k p0) (fun r => (r.2.1.length : Int) ≤ 4 ∧ (∀ y ∈ r.2.1, 0 ≤ y ∧ y ≤ 255) ∧ True) := by
  induction d with
  | zero =>
    intro t n1 k p0 t0 t1 t2 t3 h0 h1 h2 h3 h4 h5
    refine EvP.step (fun N => spec_l1Fixed.l0.eq N _ _ _) ?_
    refine EvP.ite (fun c1 => ?_) (fun c1 => ?_)
    · have f2 := i64w (n := (8 * k)) (by omega) (by omega)
      have f3 := u64i (n := (IntKind.i64.wrap (8 * k))) (by omega) (by omega)
      refine EvP.chk (decide_eq_true (by omega)) ?_
      refine EvP.chk (decide_eq_true (by unfold most; omega)) ?_
      omega
    · exact EvP.some ⟨(by (try dsimp only); omega), h5, trivial⟩
  | succ d ih =>
    intro t n1 k p0 t0 t1 t2 t3 h0 h1 h2 h3 h4 h5
    refine EvP.step (fun N => spec_l1Fixed.l0.eq N _ _ _) ?_
    refine EvP.ite (fun c1 => ?_) (fun c1 => ?_)
    · have f2 := i64w (n := (8 * k)) (by omega) (by omega)
      have f3 := u64i (n := (IntKind.i64.wrap (8 * k))) (by omega) (by omega)
      refine EvP.chk (decide_eq_true (by omega)) ?_
      refine EvP.chk (decide_eq_true (by unfold most; omega)) ?_
      have f4 := i64w (n := (k - 1)) (by omega) (by omega)
      have f5 : ([(IntKind.u8.wrap (shrI .i64 n1 (IntKind.u64.wrap (IntKind.i64.wrap (8 * k)))))] : List Int).length = 1 := rfl
      have f6 := u8_range ((shrI .i64 n1 (IntKind.u64.wrap (IntKind.i64.wrap (8 * k)))))
      have f7 : (p0 ++ [(IntKind.u8.wrap (shrI .i64 n1 (IntKind.u64.wrap (IntKind.i64.wrap (8 * k)))))]).length = p0.length + [(IntKind.u8.wrap (shrI .i64 n1 (IntKind.u64.wrap (IntKind.i64.wrap (8 * k)))))].length := List.length_append
      exact ih (t + 1) _ _ _ (by omega) (by omega) (by omega) (by omega) (by omega) (by omega) (by omega) (by omega) (by omega) (all_app h5 (all_cons ⟨(by (try dsimp only); omega), (by (try dsimp only); omega)⟩ all_nil))
    · exact EvP.some ⟨(by (try dsimp only); omega), h5, trivial⟩

theorem spec_l1Fixed_s4 {n : Int} {many : Int} (h0 : 0 ≤ n) (h1 : n ≤ 4294967295) (h2 : 4 ≤ many) (h3 : many ≤ 4) : EvP (fun N => spec_l1Fixed N n many) (fun r => (r.1.1.size : Int) ≤ 4 ∧ True) := by
  refine EvP.of (fun N => spec_l1Fixed.eq N _ _) ?_
  have f1 := i64w (n := (many - 1)) (by omega) (by omega)
  have f2 : ([] : List Int).length = 0 := rfl
  refine EvP.andK (spec_l1Fixed_l0_s4 4 0 _ _ _ (by omega) (by omega) (by omega) (by omega) (by omega) (by omega) (by omega) (by omega) (by omega) all_nil) ?_
  intro l1 q3
  obtain ⟨p4, p5, -⟩ := q3
  have f6 := strL_size l1.2.1
  exact EvP.some ⟨(by (try dsimp only); omega), trivial⟩

theorem spec_l2Bytes_l0_s (d : Nat) : ∀ (t : Int) (t38 : (List Int)) (t39 : Int) (C : ByteArray) (t40 : Int) (p0_0 : Int) (p0_1 : Int) (p0_2 : Int) (p0_3 : ByteArray) (p0_4 : ByteArray) (p0_5 : ByteArray) (p0_6 : ByteArray) (p0_7 : (List Int)), 0 ≤ t → t ≤ 4 → t + (t39 - t40) ≤ 4 → t39 - t40 ≤ (d : Int) → (t38.length : Int) ≤ 4 → (∀ y ∈ t38, 0 ≤ y ∧ y ≤ 4294967295) → 0 ≤ t39 → t39 ≤ 4 → (C.size : Int) ≤ (4 * t + 49) → 0 ≤ t40 → t40 ≤ 5 → 4 ≤ p0_0 → p0_0 ≤ 4 → 0 ≤ p0_1 → p0_1 ≤ 16 → (-1) ≤ p0_2 → p0_2 ≤ 4294967296 → (p0_3.size : Int) ≤ 21 → (p0_4.size : Int) ≤ 21 → (p0_5.size : Int) ≤ 79 → (p0_6.size : Int) ≤ 1201 → (p0_7.length : Int) ≤ 4 → (∀ y ∈ p0_7, 0 ≤ y ∧ y ≤ 4294967295) → t39 = (t38.length : Int) → EvP (fun N => spec_l2Bytes.l0 N t38 t39 C t40 p0_0 p0_1 p0_2 p0_3 p0_4 p0_5 p0_6 p0_7) (fun r => (r.1.1.size : Int) ≤ 65 ∧ 4 ≤ r.2.1.1 ∧ r.2.1.1 ≤ 4 ∧ 0 ≤ r.2.1.2.1 ∧ r.2.1.2.1 ≤ 16 ∧ (-1) ≤ r.2.1.2.2.1 ∧ r.2.1.2.2.1 ≤ 4294967296 ∧ (r.2.1.2.2.2.1.size : Int) ≤ 21 ∧ (r.2.1.2.2.2.2.1.size : Int) ≤ 21 ∧ (r.2.1.2.2.2.2.2.1.size : Int) ≤ 79 ∧ (r.2.1.2.2.2.2.2.2.1.size : Int) ≤ 1201 ∧ (r.2.1.2.2.2.2.2.2.2.1.length : Int) ≤ 4 ∧ (∀ y ∈ r.2.1.2.2.2.2.2.2.2.1, 0 ≤ y ∧ y ≤ 4294967295) ∧ True) := by
  induction d with
  | zero =>
    intro t t38 t39 C t40 p0_0 p0_1 p0_2 p0_3 p0_4 p0_5 p0_6 p0_7 t0 t1 t2 t3 h0 h1 h2 h3 h4 h5 h6 h7 h8 h9 h10 h11 h12 h13 h14 h15 h16 h17 h18 e0
    refine EvP.step (fun N => spec_l2Bytes.l0.eq N _ _ _ _ _ _ _ _ _ _ _ _) ?_
    refine EvP.ite (fun c1 => ?_) (fun c1 => ?_)
    · refine EvP.chk (and_i (decide_eq_true (by omega)) (decide_eq_true (by omega))) ?_
      have g2 := getD_all (d := 0) (P := fun y => 0 ≤ y ∧ y ≤ 4294967295) h1 (Int.toNat t40) (by simp)
      obtain ⟨g3, g4⟩ := g2
      refine EvP.andK (spec_l1Fixed_s4 (by omega) (by omega) (by omega) (by omega)) ?_
      intro u6 q5
      obtain ⟨p6, -⟩ := q5
      refine EvP.chk (decide_eq_true (by omega)) ?_
      omega
    · exact EvP.some ⟨(by (try dsimp only); omega), (by (try dsimp only); omega), (by (try dsimp only); omega), (by (try dsimp only); omega), (by (try dsimp only); omega), (by (try dsimp only); omega), (by (try dsimp only); omega), (by (try dsimp only); omega), (by (try dsimp only); omega), (by (try dsimp only); omega), (by (try dsimp only); omega), (by (try dsimp only); omega), h18, trivial⟩
  | succ d ih =>
    intro t t38 t39 C t40 p0_0 p0_1 p0_2 p0_3 p0_4 p0_5 p0_6 p0_7 t0 t1 t2 t3 h0 h1 h2 h3 h4 h5 h6 h7 h8 h9 h10 h11 h12 h13 h14 h15 h16 h17 h18 e0
    refine EvP.step (fun N => spec_l2Bytes.l0.eq N _ _ _ _ _ _ _ _ _ _ _ _) ?_
    refine EvP.ite (fun c1 => ?_) (fun c1 => ?_)
    · refine EvP.chk (and_i (decide_eq_true (by omega)) (decide_eq_true (by omega))) ?_
      have g2 := getD_all (d := 0) (P := fun y => 0 ≤ y ∧ y ≤ 4294967295) h1 (Int.toNat t40) (by simp)
      obtain ⟨g3, g4⟩ := g2
      refine EvP.andK (spec_l1Fixed_s4 (by omega) (by omega) (by omega) (by omega)) ?_
      intro u6 q5
      obtain ⟨p6, -⟩ := q5
      refine EvP.chk (decide_eq_true (by omega)) ?_
      have f7 : (C ++ u6.1.1).size = C.size + u6.1.1.size := ByteArray.size_append
      have f8 := i64w (n := (t40 + 1)) (by omega) (by omega)
      exact ih (t + 1) _ _ _ _ _ _ _ _ _ _ _ _ (by omega) (by omega) (by omega) (by omega) (by omega) h1 (by omega) (by omega) (by omega) (by omega) (by omega) (by omega) (by omega) (by omega) (by omega) (by omega) (by omega) (by omega) (by omega) (by omega) (by omega) (by omega) h18 (by omega)
    · exact EvP.some ⟨(by (try dsimp only); omega), (by (try dsimp only); omega), (by (try dsimp only); omega), (by (try dsimp only); omega), (by (try dsimp only); omega), (by (try dsimp only); omega), (by (try dsimp only); omega), (by (try dsimp only); omega), (by (try dsimp only); omega), (by (try dsimp only); omega), (by (try dsimp only); omega), (by (try dsimp only); omega), h18, trivial⟩

theorem spec_l1Fixed_l0_s5 (d : Nat) : ∀ (t : Int) (n1 : Int) (k : Int) (p0 : (List Int)), 0 ≤ t → t ≤ 4 → t + (k - 0 + 1) ≤ 4 → k - 0 + 1 ≤ (d : Int) → (-1) ≤ n1 → n1 ≤ 4294967296 → (-2) ≤ k → k ≤ 3 → (p0.length : Int) ≤ t → (∀ y ∈ p0, 0 ≤ y ∧ y ≤ 255) → EvP (fun N => spec_l1Fixed.l0 N n1 k p0) (fun r => (r.2.1.length : Int) ≤ 4 ∧ (∀ y ∈ r.2.1, 0 ≤ y ∧ y ≤ 255) ∧ True) := by
  induction d with
  | zero =>
    intro t n1 k p0 t0 t1 t2 t3 h0 h1 h2 h3 h4 h5
    refine EvP.step (fun N => spec_l1Fixed.l0.eq N _ _ _) ?_
    refine EvP.ite (fun c1 => ?_) (fun c1 => ?_)
    · have f2 := i64w (n := (8 * k)) (by omega) (by omega)
      have f3 := u64i (n := (IntKind.i64.wrap (8 * k))) (by omega) (by omega)
      refine EvP.chk (decide_eq_true (by omega)) ?_
      refine EvP.chk (decide_eq_true (by unfold most; omega)) ?_
      omega
    · exact EvP.some ⟨(by (try dsimp only); omega), h5, trivial⟩
  | succ d ih =>
    intro t n1 k p0 t0 t1 t2 t3 h0 h1 h2 h3 h4 h5
    refine EvP.step (fun N => spec_l1Fixed.l0.eq N _ _ _) ?_
    refine EvP.ite (fun c1 => ?_) (fun c1 => ?_)
    · have f2 := i64w (n := (8 * k)) (by omega) (by omega)
      have f3 := u64i (n := (IntKind.i64.wrap (8 * k))) (by omega) (by omega)
      refine EvP.chk (decide_eq_true (by omega)) ?_
      refine EvP.chk (decide_eq_true (by unfold most; omega)) ?_
      have f4 := i64w (n := (k - 1)) (by omega) (by omega)
      have f5 : ([(IntKind.u8.wrap (shrI .i64 n1 (IntKind.u64.wrap (IntKind.i64.wrap (8 * k)))))] : List Int).length = 1 := rfl
      have f6 := u8_range ((shrI .i64 n1 (IntKind.u64.wrap (IntKind.i64.wrap (8 * k)))))
      have f7 : (p0 ++ [(IntKind.u8.wrap (shrI .i64 n1 (IntKind.u64.wrap (IntKind.i64.wrap (8 * k)))))]).length = p0.length + [(IntKind.u8.wrap (shrI .i64 n1 (IntKind.u64.wrap (IntKind.i64.wrap (8 * k)))))].length := List.length_append
      exact ih (t + 1) _ _ _ (by omega) (by omega) (by omega) (by omega) (by omega) (by omega) (by omega) (by omega) (by omega) (all_app h5 (all_cons ⟨(by (try dsimp only); omega), (by (try dsimp only); omega)⟩ all_nil))
    · exact EvP.some ⟨(by (try dsimp only); omega), h5, trivial⟩

theorem spec_l1Fixed_s5 {n : Int} {many : Int} (h0 : (-1) ≤ n) (h1 : n ≤ 4294967296) (h2 : 4 ≤ many) (h3 : many ≤ 4) : EvP (fun N => spec_l1Fixed N n many) (fun r => (r.1.1.size : Int) ≤ 4 ∧ True) := by
  refine EvP.of (fun N => spec_l1Fixed.eq N _ _) ?_
  have f1 := i64w (n := (many - 1)) (by omega) (by omega)
  have f2 : ([] : List Int).length = 0 := rfl
  refine EvP.andK (spec_l1Fixed_l0_s5 4 0 _ _ _ (by omega) (by omega) (by omega) (by omega) (by omega) (by omega) (by omega) (by omega) (by omega) all_nil) ?_
  intro l1 q3
  obtain ⟨p4, p5, -⟩ := q3
  have f6 := strL_size l1.2.1
  exact EvP.some ⟨(by (try dsimp only); omega), trivial⟩

theorem spec_l1Size_s {n : Int} (h0 : 0 ≤ n) (h1 : n ≤ 79) : EvP (fun N => spec_l1Size N n) (fun r => 1 ≤ r.1.1 ∧ r.1.1 ≤ 2 ∧ True) := by
  refine EvP.of (fun N => spec_l1Size.eq N _) ?_
  refine EvP.ite (fun c1 => ?_) (fun c1 => ?_)
  · exact EvP.some ⟨(by (try dsimp only); omega), (by (try dsimp only); omega), trivial⟩
  · refine EvP.pos (by omega) ?_
    exact EvP.some ⟨(by (try dsimp only); omega), (by (try dsimp only); omega), trivial⟩

theorem spec_l1Fixed_l0_s6 (d : Nat) : ∀ (t : Int) (n1 : Int) (k : Int) (p0 : (List Int)), 0 ≤ t → t ≤ 1 → t + (k - 0 + 1) ≤ 1 → k - 0 + 1 ≤ (d : Int) → 0 ≤ n1 → n1 ≤ 79 → (-2) ≤ k → k ≤ 0 → (p0.length : Int) ≤ t → (∀ y ∈ p0, 0 ≤ y ∧ y ≤ 255) → EvP (fun N => spec_l1Fixed.l0 N n1 k p0) (fun r => (r.2.1.length : Int) ≤ 1 ∧ (∀ y ∈ r.2.1, 0 ≤ y ∧ y ≤ 255) ∧ True) := by
  induction d with
  | zero =>
    intro t n1 k p0 t0 t1 t2 t3 h0 h1 h2 h3 h4 h5
    refine EvP.step (fun N => spec_l1Fixed.l0.eq N _ _ _) ?_
    refine EvP.ite (fun c1 => ?_) (fun c1 => ?_)
    · have f2 := i64w (n := (8 * k)) (by omega) (by omega)
      have f3 := u64i (n := (IntKind.i64.wrap (8 * k))) (by omega) (by omega)
      refine EvP.chk (decide_eq_true (by omega)) ?_
      refine EvP.chk (decide_eq_true (by unfold most; omega)) ?_
      omega
    · exact EvP.some ⟨(by (try dsimp only); omega), h5, trivial⟩
  | succ d ih =>
    intro t n1 k p0 t0 t1 t2 t3 h0 h1 h2 h3 h4 h5
    refine EvP.step (fun N => spec_l1Fixed.l0.eq N _ _ _) ?_
    refine EvP.ite (fun c1 => ?_) (fun c1 => ?_)
    · have f2 := i64w (n := (8 * k)) (by omega) (by omega)
      have f3 := u64i (n := (IntKind.i64.wrap (8 * k))) (by omega) (by omega)
      refine EvP.chk (decide_eq_true (by omega)) ?_
      refine EvP.chk (decide_eq_true (by unfold most; omega)) ?_
      have f4 := i64w (n := (k - 1)) (by omega) (by omega)
      have f5 : ([(IntKind.u8.wrap (shrI .i64 n1 (IntKind.u64.wrap (IntKind.i64.wrap (8 * k)))))] : List Int).length = 1 := rfl
      have f6 := u8_range ((shrI .i64 n1 (IntKind.u64.wrap (IntKind.i64.wrap (8 * k)))))
      have f7 : (p0 ++ [(IntKind.u8.wrap (shrI .i64 n1 (IntKind.u64.wrap (IntKind.i64.wrap (8 * k)))))]).length = p0.length + [(IntKind.u8.wrap (shrI .i64 n1 (IntKind.u64.wrap (IntKind.i64.wrap (8 * k)))))].length := List.length_append
      exact ih (t + 1) _ _ _ (by omega) (by omega) (by omega) (by omega) (by omega) (by omega) (by omega) (by omega) (by omega) (all_app h5 (all_cons ⟨(by (try dsimp only); omega), (by (try dsimp only); omega)⟩ all_nil))
    · exact EvP.some ⟨(by (try dsimp only); omega), h5, trivial⟩

theorem spec_l1Fixed_s6 {n : Int} {many : Int} (h0 : 0 ≤ n) (h1 : n ≤ 79) (h2 : 1 ≤ many) (h3 : many ≤ 1) : EvP (fun N => spec_l1Fixed N n many) (fun r => (r.1.1.size : Int) ≤ 1 ∧ True) := by
  refine EvP.of (fun N => spec_l1Fixed.eq N _ _) ?_
  have f1 := i64w (n := (many - 1)) (by omega) (by omega)
  have f2 : ([] : List Int).length = 0 := rfl
  refine EvP.andK (spec_l1Fixed_l0_s6 1 0 _ _ _ (by omega) (by omega) (by omega) (by omega) (by omega) (by omega) (by omega) (by omega) (by omega) all_nil) ?_
  intro l1 q3
  obtain ⟨p4, p5, -⟩ := q3
  have f6 := strL_size l1.2.1
  exact EvP.some ⟨(by (try dsimp only); omega), trivial⟩

theorem spec_l1Fixed_l0_s7 (d : Nat) : ∀ (t : Int) (n1 : Int) (k : Int) (p0 : (List Int)), 0 ≤ t → t ≤ 2 → t + (k - 0 + 1) ≤ 2 → k - 0 + 1 ≤ (d : Int) → (-9223372036854775808) ≤ n1 → n1 ≤ 9223372036854775807 → (-2) ≤ k → k ≤ 1 → (p0.length : Int) ≤ t → (∀ y ∈ p0, 0 ≤ y ∧ y ≤ 255) → EvP (fun N => spec_l1Fixed.l0 N n1 k p0) (fun r => (r.2.1.length : Int) ≤ 2 ∧ (∀ y ∈ r.2.1, 0 ≤ y ∧ y ≤ 255) ∧ True) := by
  induction d with
  | zero =>
    intro t n1 k p0 t0 t1 t2 t3 h0 h1 h2 h3 h4 h5
    refine EvP.step (fun N => spec_l1Fixed.l0.eq N _ _ _) ?_
    refine EvP.ite (fun c1 => ?_) (fun c1 => ?_)
    · have f2 := i64w (n := (8 * k)) (by omega) (by omega)
      have f3 := u64i (n := (IntKind.i64.wrap (8 * k))) (by omega) (by omega)
      refine EvP.chk (decide_eq_true (by omega)) ?_
      refine EvP.chk (decide_eq_true (by unfold most; omega)) ?_
      omega
    · exact EvP.some ⟨(by (try dsimp only); omega), h5, trivial⟩
  | succ d ih =>
    intro t n1 k p0 t0 t1 t2 t3 h0 h1 h2 h3 h4 h5
    refine EvP.step (fun N => spec_l1Fixed.l0.eq N _ _ _) ?_
    refine EvP.ite (fun c1 => ?_) (fun c1 => ?_)
    · have f2 := i64w (n := (8 * k)) (by omega) (by omega)
      have f3 := u64i (n := (IntKind.i64.wrap (8 * k))) (by omega) (by omega)
      refine EvP.chk (decide_eq_true (by omega)) ?_
      refine EvP.chk (decide_eq_true (by unfold most; omega)) ?_
      have f4 := i64w (n := (k - 1)) (by omega) (by omega)
      have f5 : ([(IntKind.u8.wrap (shrI .i64 n1 (IntKind.u64.wrap (IntKind.i64.wrap (8 * k)))))] : List Int).length = 1 := rfl
      have f6 := u8_range ((shrI .i64 n1 (IntKind.u64.wrap (IntKind.i64.wrap (8 * k)))))
      have f7 : (p0 ++ [(IntKind.u8.wrap (shrI .i64 n1 (IntKind.u64.wrap (IntKind.i64.wrap (8 * k)))))]).length = p0.length + [(IntKind.u8.wrap (shrI .i64 n1 (IntKind.u64.wrap (IntKind.i64.wrap (8 * k)))))].length := List.length_append
      exact ih (t + 1) _ _ _ (by omega) (by omega) (by omega) (by omega) (by omega) (by omega) (by omega) (by omega) (by omega) (all_app h5 (all_cons ⟨(by (try dsimp only); omega), (by (try dsimp only); omega)⟩ all_nil))
    · exact EvP.some ⟨(by (try dsimp only); omega), h5, trivial⟩

theorem spec_l1Fixed_s7 {n : Int} {many : Int} (h0 : (-9223372036854775808) ≤ n) (h1 : n ≤ 9223372036854775807) (h2 : 2 ≤ many) (h3 : many ≤ 2) : EvP (fun N => spec_l1Fixed N n many) (fun r => (r.1.1.size : Int) ≤ 2 ∧ True) := by
  refine EvP.of (fun N => spec_l1Fixed.eq N _ _) ?_
  have f1 := i64w (n := (many - 1)) (by omega) (by omega)
  have f2 : ([] : List Int).length = 0 := rfl
  refine EvP.andK (spec_l1Fixed_l0_s7 2 0 _ _ _ (by omega) (by omega) (by omega) (by omega) (by omega) (by omega) (by omega) (by omega) (by omega) all_nil) ?_
  intro l1 q3
  obtain ⟨p4, p5, -⟩ := q3
  have f6 := strL_size l1.2.1
  exact EvP.some ⟨(by (try dsimp only); omega), trivial⟩

theorem spec_l1Fixed_l0_s8 (d : Nat) : ∀ (t : Int) (n1 : Int) (k : Int) (p0 : (List Int)), 0 ≤ t → t ≤ 8 → t + (k - 0 + 1) ≤ 8 → k - 0 + 1 ≤ (d : Int) → (-9223372036854775808) ≤ n1 → n1 ≤ 9223372036854775807 → (-2) ≤ k → k ≤ 7 → (p0.length : Int) ≤ t → (∀ y ∈ p0, 0 ≤ y ∧ y ≤ 255) → EvP (fun N => spec_l1Fixed.l0 N n1 k p0) (fun r => (r.2.1.length : Int) ≤ 8 ∧ (∀ y ∈ r.2.1, 0 ≤ y ∧ y ≤ 255) ∧ True) := by
  induction d with
  | zero =>
    intro t n1 k p0 t0 t1 t2 t3 h0 h1 h2 h3 h4 h5
    refine EvP.step (fun N => spec_l1Fixed.l0.eq N _ _ _) ?_
    refine EvP.ite (fun c1 => ?_) (fun c1 => ?_)
    · have f2 := i64w (n := (8 * k)) (by omega) (by omega)
      have f3 := u64i (n := (IntKind.i64.wrap (8 * k))) (by omega) (by omega)
      refine EvP.chk (decide_eq_true (by omega)) ?_
      refine EvP.chk (decide_eq_true (by unfold most; omega)) ?_
      omega
    · exact EvP.some ⟨(by (try dsimp only); omega), h5, trivial⟩
  | succ d ih =>
    intro t n1 k p0 t0 t1 t2 t3 h0 h1 h2 h3 h4 h5
    refine EvP.step (fun N => spec_l1Fixed.l0.eq N _ _ _) ?_
    refine EvP.ite (fun c1 => ?_) (fun c1 => ?_)
    · have f2 := i64w (n := (8 * k)) (by omega) (by omega)
      have f3 := u64i (n := (IntKind.i64.wrap (8 * k))) (by omega) (by omega)
      refine EvP.chk (decide_eq_true (by omega)) ?_
      refine EvP.chk (decide_eq_true (by unfold most; omega)) ?_
      have f4 := i64w (n := (k - 1)) (by omega) (by omega)
      have f5 : ([(IntKind.u8.wrap (shrI .i64 n1 (IntKind.u64.wrap (IntKind.i64.wrap (8 * k)))))] : List Int).length = 1 := rfl
      have f6 := u8_range ((shrI .i64 n1 (IntKind.u64.wrap (IntKind.i64.wrap (8 * k)))))
      have f7 : (p0 ++ [(IntKind.u8.wrap (shrI .i64 n1 (IntKind.u64.wrap (IntKind.i64.wrap (8 * k)))))]).length = p0.length + [(IntKind.u8.wrap (shrI .i64 n1 (IntKind.u64.wrap (IntKind.i64.wrap (8 * k)))))].length := List.length_append
      exact ih (t + 1) _ _ _ (by omega) (by omega) (by omega) (by omega) (by omega) (by omega) (by omega) (by omega) (by omega) (all_app h5 (all_cons ⟨(by (try dsimp only); omega), (by (try dsimp only); omega)⟩ all_nil))
    · exact EvP.some ⟨(by (try dsimp only); omega), h5, trivial⟩

theorem spec_l1Fixed_s8 {n : Int} {many : Int} (h0 : (-9223372036854775808) ≤ n) (h1 : n ≤ 9223372036854775807) (h2 : 8 ≤ many) (h3 : many ≤ 8) : EvP (fun N => spec_l1Fixed N n many) (fun r => (r.1.1.size : Int) ≤ 8 ∧ True) := by
  refine EvP.of (fun N => spec_l1Fixed.eq N _ _) ?_
  have f1 := i64w (n := (many - 1)) (by omega) (by omega)
  have f2 : ([] : List Int).length = 0 := rfl
  refine EvP.andK (spec_l1Fixed_l0_s8 8 0 _ _ _ (by omega) (by omega) (by omega) (by omega) (by omega) (by omega) (by omega) (by omega) (by omega) all_nil) ?_
  intro l1 q3
  obtain ⟨p4, p5, -⟩ := q3
  have f6 := strL_size l1.2.1
  exact EvP.some ⟨(by (try dsimp only); omega), trivial⟩

theorem spec_l1Var_s {n : Int} (h0 : 0 ≤ n) (h1 : n ≤ 79) : EvP (fun N => spec_l1Var N n) (fun r => (r.1.1.size : Int) ≤ 8 ∧ True) := by
  refine EvP.of (fun N => spec_l1Var.eq N _) ?_
  refine EvP.andK (spec_l1Size_s (by omega) (by omega)) ?_
  intro u1 q1
  obtain ⟨p2, p3, -⟩ := q1
  refine EvP.ite (fun c4 => ?_) (fun c4 => ?_)
  · refine EvP.andK (spec_l1Fixed_s6 (by omega) (by omega) (by omega) (by omega)) ?_
    intro u2 q5
    obtain ⟨p6, -⟩ := q5
    exact EvP.some ⟨(by (try dsimp only); omega), trivial⟩
  · refine EvP.ite (fun c7 => ?_) (fun c7 => ?_)
    · have f8 : (-9223372036854775808) ≤ (Go.bits .or .i64 n 16384) ∧ (Go.bits .or .i64 n 16384) ≤ 9223372036854775807 := bits_range .or .i64 n 16384 (by decide)
      refine EvP.andK (spec_l1Fixed_s7 (by omega) (by omega) (by omega) (by omega)) ?_
      intro u3 q9
      obtain ⟨p10, -⟩ := q9
      exact EvP.some ⟨(by (try dsimp only); omega), trivial⟩
    · refine EvP.neg (by omega) ?_
      have f12 : (-9223372036854775808) ≤ (Go.bits .or .i64 n (-4611686018427387904)) ∧ (Go.bits .or .i64 n (-4611686018427387904)) ≤ 9223372036854775807 := bits_range .or .i64 n (-4611686018427387904) (by decide)
      refine EvP.andK (spec_l1Fixed_s8 (by omega) (by omega) (by omega) (by omega)) ?_
      intro u5 q13
      obtain ⟨p14, -⟩ := q13
      exact EvP.some ⟨(by (try dsimp only); omega), trivial⟩

theorem spec_l2Bytes_s {G_0 : Int} {G_1 : Int} {G_2 : Int} {G_3 : ByteArray} {G_4 : ByteArray} {G_5 : ByteArray} {G_6 : ByteArray} {G_7 : (List Int)} (h0 : 0 ≤ G_0) (h1 : G_0 ≤ 5) (h2 : 0 ≤ G_1) (h3 : G_1 ≤ 16) (h4 : (-1) ≤ G_2) (h5 : G_2 ≤ 4294967296) (h6 : (G_3.size : Int) ≤ 21) (h7 : (G_4.size : Int) ≤ 21) (h8 : (G_5.size : Int) ≤ 79) (h9 : (G_6.size : Int) ≤ 1201) (h10 : (G_7.length : Int) ≤ 4) (h11 : ∀ y ∈ G_7, 0 ≤ y ∧ y ≤ 4294967295) : EvP (fun N => spec_l2Bytes N G_0 G_1 G_2 G_3 G_4 G_5 G_6 G_7) (fun r => (r.1.1.size : Int) ≤ 1339 ∧ True) := by
  refine EvP.of (fun N => spec_l2Bytes.eq N _ _ _ _ _ _ _ _) ?_
  refine EvP.ite (fun c1 => ?_) (fun c1 => ?_)
  · have f2 : (-9223372036854775808) ≤ (Go.bits .or .i64 64 G_1) ∧ (Go.bits .or .i64 64 G_1) ≤ 9223372036854775807 := bits_range .or .i64 64 G_1 (by decide)
    refine EvP.andK (spec_l1Fixed_s (by omega) (by omega) (by omega) (by omega)) ?_
    intro u1 q3
    obtain ⟨p4, -⟩ := q3
    refine EvP.chk (decide_eq_true (by omega)) ?_
    have f5 : (u1.1.1 ++ G_3).size = u1.1.1.size + G_3.size := ByteArray.size_append
    refine EvP.chk (decide_eq_true (by omega)) ?_
    have f6 : ((u1.1.1 ++ G_3) ++ G_6).size = (u1.1.1 ++ G_3).size + G_6.size := ByteArray.size_append
    exact EvP.some ⟨(by (try dsimp only); omega), trivial⟩
  · refine EvP.ite (fun c7 => ?_) (fun c7 => ?_)
    · have f8 : (-9223372036854775808) ≤ (Go.bits .or .i64 192 G_1) ∧ (Go.bits .or .i64 192 G_1) ≤ 9223372036854775807 := bits_range .or .i64 192 G_1 (by decide)
      refine EvP.andK (spec_l1Fixed_s (by omega) (by omega) (by omega) (by omega)) ?_
      intro u2 q9
      obtain ⟨p10, -⟩ := q9
      refine EvP.andK (spec_l1Fixed_s2 (by omega) (by omega) (by omega) (by omega)) ?_
      intro u3 q11
      obtain ⟨p12, -⟩ := q11
      refine EvP.chk (decide_eq_true (by omega)) ?_
      refine EvP.andK (spec_l2Id_s (by omega)) ?_
      intro u4 q13
      obtain ⟨p14, -⟩ := q13
      have f15 : (u2.1.1 ++ u3.1.1).size = u2.1.1.size + u3.1.1.size := ByteArray.size_append
      refine EvP.chk (decide_eq_true (by omega)) ?_
      refine EvP.andK (spec_l2Id_s (by omega)) ?_
      intro u5 q16
      obtain ⟨p17, -⟩ := q16
      have f18 : ((u2.1.1 ++ u3.1.1) ++ u4.1.1).size = (u2.1.1 ++ u3.1.1).size + u4.1.1.size := ByteArray.size_append
      refine EvP.chk (decide_eq_true (by omega)) ?_
      have f19 : (((u2.1.1 ++ u3.1.1) ++ u4.1.1) ++ u5.1.1).size = ((u2.1.1 ++ u3.1.1) ++ u4.1.1).size + u5.1.1.size := ByteArray.size_append
      refine EvP.andK (spec_l2Bytes_l0_s 4 0 _ _ _ _ _ _ _ _ _ _ _ _ (by omega) (by omega) (by omega) (by omega) (by omega) h11 (by omega) (by omega) (by omega) (by omega) (by omega) (by omega) (by omega) (by omega) (by omega) (by omega) (by omega) (by omega) (by omega) (by omega) (by omega) (by omega) h11 (by omega)) ?_
      intro l7 q20
      obtain ⟨p21, p22, p23, p24, p25, p26, p27, p28, p29, p30, p31, p32, p33, -⟩ := q20
      exact EvP.some ⟨(by (try dsimp only); omega), trivial⟩
    · have f34 : (shlI .i64 G_0 4) = G_0 * 16 := shl_f .i64 (x := G_0) 4 16 (by decide) (by omega) (by show G_0 * 16 ≤ 9223372036854775807; omega) (by decide) (by decide)
      have f35 : (-9223372036854775808) ≤ (Go.bits .or .i64 192 (shlI .i64 G_0 4)) ∧ (Go.bits .or .i64 192 (shlI .i64 G_0 4)) ≤ 9223372036854775807 := bits_range .or .i64 192 (shlI .i64 G_0 4) (by decide)
      have f36 : (-9223372036854775808) ≤ (Go.bits .or .i64 (Go.bits .or .i64 192 (shlI .i64 G_0 4)) G_1) ∧ (Go.bits .or .i64 (Go.bits .or .i64 192 (shlI .i64 G_0 4)) G_1) ≤ 9223372036854775807 := bits_range .or .i64 (Go.bits .or .i64 192 (shlI .i64 G_0 4)) G_1 (by decide)
      refine EvP.andK (spec_l1Fixed_s (by omega) (by omega) (by omega) (by omega)) ?_
      intro u8 q37
      obtain ⟨p38, -⟩ := q37
      refine EvP.andK (spec_l1Fixed_s5 (by omega) (by omega) (by omega) (by omega)) ?_
      intro u9 q39
      obtain ⟨p40, -⟩ := q39
      refine EvP.chk (decide_eq_true (by omega)) ?_
      refine EvP.andK (spec_l2Id_s (by omega)) ?_
      intro u10 q41
      obtain ⟨p42, -⟩ := q41
      have f43 : (u8.1.1 ++ u9.1.1).size = u8.1.1.size + u9.1.1.size := ByteArray.size_append
      refine EvP.chk (decide_eq_true (by omega)) ?_
      refine EvP.andK (spec_l2Id_s (by omega)) ?_
      intro u11 q44
      obtain ⟨p45, -⟩ := q44
      have f46 : ((u8.1.1 ++ u9.1.1) ++ u10.1.1).size = (u8.1.1 ++ u9.1.1).size + u10.1.1.size := ByteArray.size_append
      refine EvP.chk (decide_eq_true (by omega)) ?_
      refine EvP.andK (Q := fun r => (r.1.2.1.size : Int) ≤ 136 ∧ 0 ≤ r.2.1.1 ∧ r.2.1.1 ≤ 5 ∧ 0 ≤ r.2.1.2.1 ∧ r.2.1.2.1 ≤ 16 ∧ (-1) ≤ r.2.1.2.2.1 ∧ r.2.1.2.2.1 ≤ 4294967296 ∧ (r.2.1.2.2.2.1.size : Int) ≤ 21 ∧ (r.2.1.2.2.2.2.1.size : Int) ≤ 21 ∧ (r.2.1.2.2.2.2.2.1.size : Int) ≤ 79 ∧ (r.2.1.2.2.2.2.2.2.1.size : Int) ≤ 1201 ∧ (r.2.1.2.2.2.2.2.2.2.1.length : Int) ≤ 4 ∧ (∀ y ∈ r.2.1.2.2.2.2.2.2.2.1, 0 ≤ y ∧ y ≤ 4294967295) ∧ True) ?_ ?_
      · refine EvP.ite (fun c47 => ?_) (fun c47 => ?_)
        · refine EvP.andK (spec_l1Var_s (by omega) (by omega)) ?_
          intro u12 q48
          obtain ⟨p49, -⟩ := q48
          refine EvP.chk (decide_eq_true (by omega)) ?_
          have f50 : (((u8.1.1 ++ u9.1.1) ++ u10.1.1) ++ u11.1.1).size = ((u8.1.1 ++ u9.1.1) ++ u10.1.1).size + u11.1.1.size := ByteArray.size_append
          have f51 : (u12.1.1 ++ G_5).size = u12.1.1.size + G_5.size := ByteArray.size_append
          refine EvP.chk (decide_eq_true (by omega)) ?_
          have f52 : ((((u8.1.1 ++ u9.1.1) ++ u10.1.1) ++ u11.1.1) ++ (u12.1.1 ++ G_5)).size = (((u8.1.1 ++ u9.1.1) ++ u10.1.1) ++ u11.1.1).size + (u12.1.1 ++ G_5).size := ByteArray.size_append
          exact EvP.some ⟨(by (try dsimp only); omega), (by (try dsimp only); omega), (by (try dsimp only); omega), (by (try dsimp only); omega), (by (try dsimp only); omega), (by (try dsimp only); omega), (by (try dsimp only); omega), (by (try dsimp only); omega), (by (try dsimp only); omega), (by (try dsimp only); omega), (by (try dsimp only); omega), (by (try dsimp only); omega), h11, trivial⟩
        · have f53 : (((u8.1.1 ++ u9.1.1) ++ u10.1.1) ++ u11.1.1).size = ((u8.1.1 ++ u9.1.1) ++ u10.1.1).size + u11.1.1.size := ByteArray.size_append
          exact EvP.some ⟨(by (try dsimp only); omega), (by (try dsimp only); omega), (by (try dsimp only); omega), (by (try dsimp only); omega), (by (try dsimp only); omega), (by (try dsimp only); omega), (by (try dsimp only); omega), (by (try dsimp only); omega), (by (try dsimp only); omega), (by (try dsimp only); omega), (by (try dsimp only); omega), (by (try dsimp only); omega), h11, trivial⟩
      · intro j13 q54
        obtain ⟨p55, p56, p57, p58, p59, p60, p61, p62, p63, p64, p65, p66, p67, -⟩ := q54
        refine EvP.nite (fun c68 => ?_) (fun c68 => ?_)
        · have f69 : (-9223372036854775808) ≤ (Go.bits .or .i64 (j13.2.1.2.2.2.2.2.2.1.size : Int) 16384) ∧ (Go.bits .or .i64 (j13.2.1.2.2.2.2.2.2.1.size : Int) 16384) ≤ 9223372036854775807 := bits_range .or .i64 (j13.2.1.2.2.2.2.2.2.1.size : Int) 16384 (by decide)
          refine EvP.andK (spec_l1Fixed_s7 (by omega) (by omega) (by omega) (by omega)) ?_
          intro u14 q70
          obtain ⟨p71, -⟩ := q70
          refine EvP.chk (decide_eq_true (by omega)) ?_
          have f72 : (j13.1.2.1 ++ u14.1.1).size = j13.1.2.1.size + u14.1.1.size := ByteArray.size_append
          refine EvP.chk (decide_eq_true (by omega)) ?_
          have f73 : ((j13.1.2.1 ++ u14.1.1) ++ j13.2.1.2.2.2.2.2.2.1).size = (j13.1.2.1 ++ u14.1.1).size + j13.2.1.2.2.2.2.2.2.1.size := ByteArray.size_append
          exact EvP.some ⟨(by (try dsimp only); omega), trivial⟩
        · refine EvP.chk (decide_eq_true (by omega)) ?_
          have f74 : (j13.1.2.1 ++ j13.2.1.2.2.2.2.2.2.1).size = j13.1.2.1.size + j13.2.1.2.2.2.2.2.2.1.size := ByteArray.size_append
          exact EvP.some ⟨(by (try dsimp only); omega), trivial⟩

theorem spec_HeaderBytes_s {h_0 : Int} {h_1 : Int} {h_2 : Int} {h_3 : ByteArray} {h_4 : ByteArray} {h_5 : ByteArray} {h_6 : ByteArray} {h_7 : (List Int)} (h0 : 0 ≤ h_0) (h1 : h_0 ≤ 5) (h2 : 0 ≤ h_1) (h3 : h_1 ≤ 16) (h4 : (-1) ≤ h_2) (h5 : h_2 ≤ 4294967296) (h6 : (h_3.size : Int) ≤ 21) (h7 : (h_4.size : Int) ≤ 21) (h8 : (h_5.size : Int) ≤ 79) (h9 : (h_6.size : Int) ≤ 1201) (h10 : (h_7.length : Int) ≤ 4) (h11 : ∀ y ∈ h_7, 0 ≤ y ∧ y ≤ 4294967295) : EvP (fun N => spec_HeaderBytes N h_0 h_1 h_2 h_3 h_4 h_5 h_6 h_7) (fun r => (r.1.1.size : Int) ≤ 1339 ∧ True) := by
  refine EvP.of (fun N => spec_HeaderBytes.eq N _ _ _ _ _ _ _ _) ?_
  refine EvP.andK (spec_GoodHeader_s (by omega) (by omega) (by omega) (by omega) (by omega) (by omega) (by omega) (by omega) (by omega) (by omega) (by omega) h11) ?_
  intro u1 q1
  refine EvP.sel (fun c2 => ?_) (fun c2 => ?_)
  · have f3 : (⟨#[]⟩ : ByteArray).size = 0 := rfl
    exact EvP.some ⟨(by (try dsimp only); omega), trivial⟩
  · refine EvP.andK (spec_l2Bytes_s (by omega) (by omega) (by omega) (by omega) (by omega) (by omega) (by omega) (by omega) (by omega) (by omega) (by omega) h11) ?_
    intro u2 q4
    obtain ⟨p5, -⟩ := q4
    exact EvP.some ⟨(by (try dsimp only); omega), trivial⟩

theorem spec_l1Cur_datagram_l0_s {b : Int} (hb : b ≤ 4611686018423998892) (d : Nat) : ∀ (t : Int) (s : ByteArray) (short : Int) (n : Int) (p0_01 : (List Int)) (p0_11 : Int) (p0_21 : Int), 0 ≤ t → t ≤ 3 → t + (n - 0) ≤ 3 → n - 0 ≤ (d : Int) → (s.size : Int) ≤ 1339 * t → 0 ≤ short → short ≤ 21 → (-3) ≤ n → n ≤ 3 → (∀ y ∈ p0_01, 0 ≤ y ∧ y ≤ 255) → 0 ≤ p0_11 → p0_11 ≤ (b + 320 * t) → EvP (fun N => spec_l1Cur_datagram.l0 N s short n p0_01 p0_11 p0_21) (fun r => (r.1.2.1.size : Int) ≤ 5356 ∧ 0 ≤ r.1.2.2.1 ∧ r.1.2.2.1 ≤ 21 ∧ (∀ y ∈ r.2.1.1, 0 ≤ y ∧ y ≤ 255) ∧ 0 ≤ r.2.1.2.1 ∧ r.2.1.2.1 ≤ (b + 1280) ∧ True) := by
  induction d with
  | zero =>
    intro t s short n p0_01 p0_11 p0_21 t0 t1 t2 t3 h0 h1 h2 h3 h4 h5 h6 h7
    refine EvP.step (fun N => spec_l1Cur_datagram.l0.eq N _ _ _ _ _ _) ?_
    refine EvP.ite (fun c1 => ?_) (fun c1 => ?_)
    · refine EvP.andK (spec_l1Cur_header_s (b := (b + 320 * t)) h5 (by omega) (by omega) (by omega)) ?_
      intro u3 q2
      obtain ⟨p3, p4, p5, p6, p7, p8, p9, p10, p11, p12, p13, p14, p15, p16, p17, -⟩ := q2
      refine EvP.andK (Q := fun r => 0 ≤ r.1.2.1 ∧ r.1.2.1 ≤ 21 ∧ (∀ y ∈ r.2.1.1, 0 ≤ y ∧ y ≤ 255) ∧ 0 ≤ r.2.1.2.1 ∧ r.2.1.2.1 ≤ (b + 320 * t + 320) ∧ (r.2.2.1.length : Int) ≤ 4 ∧ (∀ y ∈ r.2.2.1, 0 ≤ y ∧ y ≤ 4294967295) ∧ 0 ≤ r.2.2.2.1.1 ∧ r.2.2.2.1.1 ≤ 5 ∧ 0 ≤ r.2.2.2.1.2.1 ∧ r.2.2.2.1.2.1 ≤ 16 ∧ (-1) ≤ r.2.2.2.1.2.2.1 ∧ r.2.2.2.1.2.2.1 ≤ 4294967296 ∧ (r.2.2.2.1.2.2.2.1.size : Int) ≤ 21 ∧ (r.2.2.2.1.2.2.2.2.1.size : Int) ≤ 21 ∧ (r.2.2.2.1.2.2.2.2.2.1.size : Int) ≤ 79 ∧ (r.2.2.2.1.2.2.2.2.2.2.1.size : Int) ≤ 1201 ∧ True) ?_ ?_
      · refine EvP.ite (fun c18 => ?_) (fun c18 => ?_)
        · exact EvP.some ⟨(by (try dsimp only); omega), (by (try dsimp only); omega), p13, (by (try dsimp only); omega), (by (try dsimp only); omega), (by (try dsimp only); omega), p17, (by (try dsimp only); omega), (by (try dsimp only); omega), (by (try dsimp only); omega), (by (try dsimp only); omega), (by (try dsimp only); omega), (by (try dsimp only); omega), (by (try dsimp only); omega), (by (try dsimp only); omega), (by (try dsimp only); omega), (by (try dsimp only); omega), trivial⟩
        · exact EvP.some ⟨(by (try dsimp only); omega), (by (try dsimp only); omega), p13, (by (try dsimp only); omega), (by (try dsimp only); omega), (by (try dsimp only); omega), p17, (by (try dsimp only); omega), (by (try dsimp only); omega), (by (try dsimp only); omega), (by (try dsimp only); omega), (by (try dsimp only); omega), (by (try dsimp only); omega), (by (try dsimp only); omega), (by (try dsimp only); omega), (by (try dsimp only); omega), (by (try dsimp only); omega), trivial⟩
      · intro j4 q19
        obtain ⟨p20, p21, p22, p23, p24, p25, p26, p27, p28, p29, p30, p31, p32, p33, p34, p35, p36, -⟩ := q19
        refine EvP.andK (spec_HeaderBytes_s (by omega) (by omega) (by omega) (by omega) (by omega) (by omega) (by omega) (by omega) (by omega) (by omega) (by omega) p26) ?_
        intro u5 q37
        obtain ⟨p38, -⟩ := q37
        refine EvP.andK (Q := fun r => (r.1.2.1.size : Int) ≤ (1339 * t + 1339) ∧ (∀ y ∈ r.2.1.1, 0 ≤ y ∧ y ≤ 255) ∧ 0 ≤ r.2.1.2.1 ∧ r.2.1.2.1 ≤ (b + 320 * t + 320) ∧ (r.2.2.1.length : Int) ≤ 4 ∧ (∀ y ∈ r.2.2.1, 0 ≤ y ∧ y ≤ 4294967295) ∧ 0 ≤ r.2.2.2.1.1 ∧ r.2.2.2.1.1 ≤ 5 ∧ 0 ≤ r.2.2.2.1.2.1 ∧ r.2.2.2.1.2.1 ≤ 16 ∧ (-1) ≤ r.2.2.2.1.2.2.1 ∧ r.2.2.2.1.2.2.1 ≤ 4294967296 ∧ (r.2.2.2.1.2.2.2.1.size : Int) ≤ 21 ∧ (r.2.2.2.1.2.2.2.2.1.size : Int) ≤ 21 ∧ (r.2.2.2.1.2.2.2.2.2.1.size : Int) ≤ 79 ∧ (r.2.2.2.1.2.2.2.2.2.2.1.size : Int) ≤ 1201 ∧ True) ?_ ?_
        · refine EvP.sel (fun c39 => ?_) (fun c39 => ?_)
          · refine EvP.chk (decide_eq_true (by omega)) ?_
            have f40 : (s ++ u5.1.1).size = s.size + u5.1.1.size := ByteArray.size_append
            exact EvP.some ⟨(by (try dsimp only); omega), p22, (by (try dsimp only); omega), (by (try dsimp only); omega), (by (try dsimp only); omega), p26, (by (try dsimp only); omega), (by (try dsimp only); omega), (by (try dsimp only); omega), (by (try dsimp only); omega), (by (try dsimp only); omega), (by (try dsimp only); omega), (by (try dsimp only); omega), (by (try dsimp only); omega), (by (try dsimp only); omega), (by (try dsimp only); omega), trivial⟩
          · exact EvP.some ⟨(by (try dsimp only); omega), p22, (by (try dsimp only); omega), (by (try dsimp only); omega), (by (try dsimp only); omega), p26, (by (try dsimp only); omega), (by (try dsimp only); omega), (by (try dsimp only); omega), (by (try dsimp only); omega), (by (try dsimp only); omega), (by (try dsimp only); omega), (by (try dsimp only); omega), (by (try dsimp only); omega), (by (try dsimp only); omega), (by (try dsimp only); omega), trivial⟩
        · intro j6 q41
          obtain ⟨p42, p43, p44, p45, p46, p47, p48, p49, p50, p51, p52, p53, p54, p55, p56, p57, -⟩ := q41
          refine EvP.ite (fun c58 => ?_) (fun c58 => ?_)
          · exact EvP.some ⟨(by (try dsimp only); omega), (by (try dsimp only); omega), (by (try dsimp only); omega), p43, (by (try dsimp only); omega), (by (try dsimp only); omega), trivial⟩
          · omega
    · exact EvP.some ⟨(by (try dsimp only); omega), (by (try dsimp only); omega), (by (try dsimp only); omega), h5, (by (try dsimp only); omega), (by (try dsimp only); omega), trivial⟩
  | succ d ih =>
    intro t s short n p0_01 p0_11 p0_21 t0 t1 t2 t3 h0 h1 h2 h3 h4 h5 h6 h7
    refine EvP.step (fun N => spec_l1Cur_datagram.l0.eq N _ _ _ _ _ _) ?_
    refine EvP.ite (fun c1 => ?_) (fun c1 => ?_)
    · refine EvP.andK (spec_l1Cur_header_s (b := (b + 320 * t)) h5 (by omega) (by omega) (by omega)) ?_
      intro u3 q2
      obtain ⟨p3, p4, p5, p6, p7, p8, p9, p10, p11, p12, p13, p14, p15, p16, p17, -⟩ := q2
      refine EvP.andK (Q := fun r => 0 ≤ r.1.2.1 ∧ r.1.2.1 ≤ 21 ∧ (∀ y ∈ r.2.1.1, 0 ≤ y ∧ y ≤ 255) ∧ 0 ≤ r.2.1.2.1 ∧ r.2.1.2.1 ≤ (b + 320 * t + 320) ∧ (r.2.2.1.length : Int) ≤ 4 ∧ (∀ y ∈ r.2.2.1, 0 ≤ y ∧ y ≤ 4294967295) ∧ 0 ≤ r.2.2.2.1.1 ∧ r.2.2.2.1.1 ≤ 5 ∧ 0 ≤ r.2.2.2.1.2.1 ∧ r.2.2.2.1.2.1 ≤ 16 ∧ (-1) ≤ r.2.2.2.1.2.2.1 ∧ r.2.2.2.1.2.2.1 ≤ 4294967296 ∧ (r.2.2.2.1.2.2.2.1.size : Int) ≤ 21 ∧ (r.2.2.2.1.2.2.2.2.1.size : Int) ≤ 21 ∧ (r.2.2.2.1.2.2.2.2.2.1.size : Int) ≤ 79 ∧ (r.2.2.2.1.2.2.2.2.2.2.1.size : Int) ≤ 1201 ∧ True) ?_ ?_
      · refine EvP.ite (fun c18 => ?_) (fun c18 => ?_)
        · exact EvP.some ⟨(by (try dsimp only); omega), (by (try dsimp only); omega), p13, (by (try dsimp only); omega), (by (try dsimp only); omega), (by (try dsimp only); omega), p17, (by (try dsimp only); omega), (by (try dsimp only); omega), (by (try dsimp only); omega), (by (try dsimp only); omega), (by (try dsimp only); omega), (by (try dsimp only); omega), (by (try dsimp only); omega), (by (try dsimp only); omega), (by (try dsimp only); omega), (by (try dsimp only); omega), trivial⟩
        · exact EvP.some ⟨(by (try dsimp only); omega), (by (try dsimp only); omega), p13, (by (try dsimp only); omega), (by (try dsimp only); omega), (by (try dsimp only); omega), p17, (by (try dsimp only); omega), (by (try dsimp only); omega), (by (try dsimp only); omega), (by (try dsimp only); omega), (by (try dsimp only); omega), (by (try dsimp only); omega), (by (try dsimp only); omega), (by (try dsimp only); omega), (by (try dsimp only); omega), (by (try dsimp only); omega), trivial⟩
      · intro j4 q19
        obtain ⟨p20, p21, p22, p23, p24, p25, p26, p27, p28, p29, p30, p31, p32, p33, p34, p35, p36, -⟩ := q19
        refine EvP.andK (spec_HeaderBytes_s (by omega) (by omega) (by omega) (by omega) (by omega) (by omega) (by omega) (by omega) (by omega) (by omega) (by omega) p26) ?_
        intro u5 q37
        obtain ⟨p38, -⟩ := q37
        refine EvP.andK (Q := fun r => (r.1.2.1.size : Int) ≤ (1339 * t + 1339) ∧ (∀ y ∈ r.2.1.1, 0 ≤ y ∧ y ≤ 255) ∧ 0 ≤ r.2.1.2.1 ∧ r.2.1.2.1 ≤ (b + 320 * t + 320) ∧ (r.2.2.1.length : Int) ≤ 4 ∧ (∀ y ∈ r.2.2.1, 0 ≤ y ∧ y ≤ 4294967295) ∧ 0 ≤ r.2.2.2.1.1 ∧ r.2.2.2.1.1 ≤ 5 ∧ 0 ≤ r.2.2.2.1.2.1 ∧ r.2.2.2.1.2.1 ≤ 16 ∧ (-1) ≤ r.2.2.2.1.2.2.1 ∧ r.2.2.2.1.2.2.1 ≤ 4294967296 ∧ (r.2.2.2.1.2.2.2.1.size : Int) ≤ 21 ∧ (r.2.2.2.1.2.2.2.2.1.size : Int) ≤ 21 ∧ (r.2.2.2.1.2.2.2.2.2.1.size : Int) ≤ 79 ∧ (r.2.2.2.1.2.2.2.2.2.2.1.size : Int) ≤ 1201 ∧ True) ?_ ?_
        · refine EvP.sel (fun c39 => ?_) (fun c39 => ?_)
          · refine EvP.chk (decide_eq_true (by omega)) ?_
            have f40 : (s ++ u5.1.1).size = s.size + u5.1.1.size := ByteArray.size_append
            exact EvP.some ⟨(by (try dsimp only); omega), p22, (by (try dsimp only); omega), (by (try dsimp only); omega), (by (try dsimp only); omega), p26, (by (try dsimp only); omega), (by (try dsimp only); omega), (by (try dsimp only); omega), (by (try dsimp only); omega), (by (try dsimp only); omega), (by (try dsimp only); omega), (by (try dsimp only); omega), (by (try dsimp only); omega), (by (try dsimp only); omega), (by (try dsimp only); omega), trivial⟩
          · exact EvP.some ⟨(by (try dsimp only); omega), p22, (by (try dsimp only); omega), (by (try dsimp only); omega), (by (try dsimp only); omega), p26, (by (try dsimp only); omega), (by (try dsimp only); omega), (by (try dsimp only); omega), (by (try dsimp only); omega), (by (try dsimp only); omega), (by (try dsimp only); omega), (by (try dsimp only); omega), (by (try dsimp only); omega), (by (try dsimp only); omega), (by (try dsimp only); omega), trivial⟩
        · intro j6 q41
          obtain ⟨p42, p43, p44, p45, p46, p47, p48, p49, p50, p51, p52, p53, p54, p55, p56, p57, -⟩ := q41
          refine EvP.ite (fun c58 => ?_) (fun c58 => ?_)
          · exact EvP.some ⟨(by (try dsimp only); omega), (by (try dsimp only); omega), (by (try dsimp only); omega), p43, (by (try dsimp only); omega), (by (try dsimp only); omega), trivial⟩
          · have f59 := i64w (n := (n - 1)) (by omega) (by omega)
            exact ih (t + 1) _ _ _ _ _ _ (by omega) (by omega) (by omega) (by omega) (by omega) (by omega) (by omega) (by omega) (by omega) p43 (by omega) (by omega)
    · exact EvP.some ⟨(by (try dsimp only); omega), (by (try dsimp only); omega), (by (try dsimp only); omega), h5, (by (try dsimp only); omega), (by (try dsimp only); omega), trivial⟩

theorem spec_l1Cur_datagram_s {b : Int} {p0_0 : (List Int)} {p0_1 : Int} {p0_2 : Int} (h0 : ∀ y ∈ p0_0, 0 ≤ y ∧ y ≤ 255) (h1 : 0 ≤ p0_1) (h2 : p0_1 ≤ b) (hb : b ≤ 4611686018422998714) : EvP (fun N => spec_l1Cur_datagram N p0_0 p0_1 p0_2) (fun r => (r.1.1.size : Int) ≤ 5358 ∧ 0 ≤ r.1.2.1 ∧ r.1.2.1 ≤ 20 ∧ (∀ y ∈ r.2.1.1, 0 ≤ y ∧ y ≤ 255) ∧ 0 ≤ r.2.1.2.1 ∧ r.2.1.2.1 ≤ (b + 1300) ∧ True) := by
  refine EvP.of (fun N => spec_l1Cur_datagram.eq N _ _ _) ?_
  refine EvP.andK (pick_s (b := b) (n := 9) (m := 8) h0 (by omega) (by omega) (by omega) (by omega) (by omega)) ?_
  intro u1 q1
  obtain ⟨q2, q3⟩ := q1
  obtain ⟨p4, p5, p6, p7⟩ := q2
  obtain ⟨p8, p9, p10, -⟩ := q3
  refine EvP.andK (pick_s (b := (b + 2)) (n := 3) (m := 2) p8 (by omega) (by omega) (by omega) (by omega) (by omega)) ?_
  intro u2 q11
  obtain ⟨q12, q13⟩ := q11
  obtain ⟨p14, p15, p16, p17⟩ := q12
  obtain ⟨p18, p19, p20, -⟩ := q13
  have f21 : (⟨#[]⟩ : ByteArray).size = 0 := rfl
  have f22 := i64w (n := (1 + u2.1.1)) (by omega) (by omega)
  refine EvP.andK (spec_l1Cur_datagram_l0_s (b := (b + 4)) (by omega) 3 0 _ _ _ _ _ _ (by omega) (by omega) (by omega) (by omega) (by omega) (by omega) (by omega) (by omega) (by omega) p18 (by omega) (by omega)) ?_
  intro l7 q23
  obtain ⟨p24, p25, p26, p27, p28, p29, -⟩ := q23
  refine EvP.andK (one_s (b := (b + 1284)) p27 (by omega) (by omega) (by omega)) ?_
  intro u8 q30
  obtain ⟨p31, p32, p33, -⟩ := q30
  refine EvP.sel (fun c34 => ?_) (fun c34 => ?_)
  · have f35 : (⟨#[192, 0, 64, 1, 255]⟩ : ByteArray).size = 5 := rfl
    refine EvP.andK (spoilt_s (b := (b + 1286)) (m := 5356) p31 (by decide) (by decide) (by omega) (by decide) (by omega) (by omega) (by omega)) ?_
    intro u9 q36
    obtain ⟨p37, p38, p39, p40, -⟩ := q36
    refine EvP.ite (fun c41 => ?_) (fun c41 => ?_)
    · exact EvP.some ⟨(by (try dsimp only); omega), (by (try dsimp only); omega), (by (try dsimp only); omega), p38, (by (try dsimp only); omega), (by (try dsimp only); omega), trivial⟩
    · exact EvP.some ⟨(by (try dsimp only); omega), (by (try dsimp only); omega), (by (try dsimp only); omega), p38, (by (try dsimp only); omega), (by (try dsimp only); omega), trivial⟩
  · refine EvP.ite (fun c42 => ?_) (fun c42 => ?_)
    · exact EvP.some ⟨(by (try dsimp only); omega), (by (try dsimp only); omega), (by (try dsimp only); omega), p31, (by (try dsimp only); omega), (by (try dsimp only); omega), trivial⟩
    · exact EvP.some ⟨(by (try dsimp only); omega), (by (try dsimp only); omega), (by (try dsimp only); omega), p31, (by (try dsimp only); omega), (by (try dsimp only); omega), trivial⟩

theorem spec_DrawReadHeader_s {code : (List Int)} (h0 : ∀ y ∈ code, 0 ≤ y ∧ y ≤ 255) : EvP (fun N => spec_DrawReadHeader N code) (fun r => (r.1.1.size : Int) ≤ 5358 ∧ (-1) ≤ r.1.2.1 ∧ r.1.2.1 ≤ 21 ∧ True) := by
  refine EvP.of (fun N => spec_DrawReadHeader.eq N _) ?_
  refine EvP.andK (spec_l1Cur_datagram_s (b := 0) h0 (by omega) (by omega) (by omega)) ?_
  intro u1 q1
  obtain ⟨p2, p3, p4, p5, p6, p7, -⟩ := q1
  refine EvP.andK (one_s (b := 1300) p5 (by omega) (by omega) (by omega)) ?_
  intro u2 q8
  obtain ⟨p9, p10, p11, -⟩ := q8
  refine EvP.sel (fun c12 => ?_) (fun c12 => ?_)
  · have f13 : ([(-1), 20, 21] : List Int).length = 3 := rfl
    refine EvP.andK (among_s (b := 1302) (P := fun y => (-1) ≤ y ∧ y ≤ 21) (all_cons ⟨(by (try dsimp only); omega), (by (try dsimp only); omega)⟩ (all_cons ⟨(by (try dsimp only); omega), (by (try dsimp only); omega)⟩ (all_cons ⟨(by (try dsimp only); omega), (by (try dsimp only); omega)⟩ all_nil))) (by decide) p9 (by omega) (by omega) (by omega)) ?_
    intro u3 q14
    obtain ⟨q15, q16⟩ := q14
    obtain ⟨p17, p18⟩ := q15
    obtain ⟨p19, p20, p21, -⟩ := q16
    exact EvP.some ⟨(by (try dsimp only); omega), (by (try dsimp only); omega), (by (try dsimp only); omega), trivial⟩
  · exact EvP.some ⟨(by (try dsimp only); omega), (by (try dsimp only); omega), (by (try dsimp only); omega), trivial⟩

theorem spec_DrawCutDatagram_s {code : (List Int)} (h0 : ∀ y ∈ code, 0 ≤ y ∧ y ≤ 255) : EvP (fun N => spec_DrawCutDatagram N code) (fun r => (r.1.1.size : Int) ≤ 5358 ∧ (-1) ≤ r.1.2.1 ∧ r.1.2.1 ≤ 21 ∧ True) := by
  refine EvP.of (fun N => spec_DrawCutDatagram.eq N _) ?_
  refine EvP.andK (spec_DrawReadHeader_s h0) ?_
  intro u1 q1
  obtain ⟨p2, p3, p4, -⟩ := q1
  exact EvP.some ⟨(by (try dsimp only); omega), (by (try dsimp only); omega), (by (try dsimp only); omega), trivial⟩

theorem spec_DrawVersionAnswer_l0_s {b : Int} (hb : b ≤ 4611686018426999994) (d : Nat) : ∀ (t : Int) (n : Int) (p0_0 : Int) (p0_1 : Int) (p0_2 : Int) (p0_3 : ByteArray) (p0_4 : ByteArray) (p0_5 : ByteArray) (p0_6 : ByteArray) (p1_0 : (List Int)) (p1_1 : Int) (p1_2 : Int) (p3_0 : Int) (p3_1 : Int) (p3_2 : Int) (p3_3 : ByteArray) (p3_4 : ByteArray) (p3_5 : ByteArray) (p3_6 : ByteArray) (p3_7 : (List Int)) (p4 : (List Int)), 0 ≤ t → t ≤ 3 → t + (n - 0) ≤ 3 → n - 0 ≤ (d : Int) → (-4) ≤ n → n ≤ 3 → 0 ≤ p0_0 → p0_0 ≤ 0 → 0 ≤ p0_1 → p0_1 ≤ 0 → 0 ≤ p0_2 → p0_2 ≤ 0 → (p0_3.size : Int) ≤ 0 → (p0_4.size : Int) ≤ 0 → (p0_5.size : Int) ≤ 0 → (p0_6.size : Int) ≤ 0 → (∀ y ∈ p1_0, 0 ≤ y ∧ y ≤ 255) → 0 ≤ p1_1 → p1_1 ≤ (b + 2 * t) → 0 ≤ p3_0 → p3_0 ≤ 5 → 0 ≤ p3_1 → p3_1 ≤ 16 → (-1) ≤ p3_2 → p3_2 ≤ 4294967296 → (p3_3.size : Int) ≤ 21 → (p3_4.size : Int) ≤ 21 → (p3_5.size : Int) ≤ 79 → (p3_6.size : Int) ≤ 1201 → (p3_7.length : Int) ≤ 4 → (∀ y ∈ p3_7, 0 ≤ y ∧ y ≤ 4294967295) → (p4.length : Int) ≤ t → (∀ y ∈ p4, 0 ≤ y ∧ y ≤ 4294967295) → EvP (fun N => spec_DrawVersionAnswer.l0 N n p0_0 p0_1 p0_2 p0_3 p0_4 p0_5 p0_6 p1_0 p1_1 p1_2 p3_0 p3_1 p3_2 p3_3 p3_4 p3_5 p3_6 p3_7 p4) (fun r => 0 ≤ r.2.1.1 ∧ r.2.1.1 ≤ 0 ∧ 0 ≤ r.2.1.2.1 ∧ r.2.1.2.1 ≤ 0 ∧ 0 ≤ r.2.1.2.2.1 ∧ r.2.1.2.2.1 ≤ 0 ∧ (r.2.1.2.2.2.1.size : Int) ≤ 0 ∧ (r.2.1.2.2.2.2.1.size : Int) ≤ 0 ∧ (r.2.1.2.2.2.2.2.1.size : Int) ≤ 0 ∧ (r.2.1.2.2.2.2.2.2.1.size : Int) ≤ 0 ∧ (∀ y ∈ r.2.2.1.1, 0 ≤ y ∧ y ≤ 255) ∧ 0 ≤ r.2.2.1.2.1 ∧ r.2.2.1.2.1 ≤ (b + 6) ∧ 0 ≤ r.2.2.2.2.1.1 ∧ r.2.2.2.2.1.1 ≤ 5 ∧ 0 ≤ r.2.2.2.2.1.2.1 ∧ r.2.2.2.2.1.2.1 ≤ 16 ∧ (-1) ≤ r.2.2.2.2.1.2.2.1 ∧ r.2.2.2.2.1.2.2.1 ≤ 4294967296 ∧ (r.2.2.2.2.1.2.2.2.1.size : Int) ≤ 21 ∧ (r.2.2.2.2.1.2.2.2.2.1.size : Int) ≤ 21 ∧ (r.2.2.2.2.1.2.2.2.2.2.1.size : Int) ≤ 79 ∧ (r.2.2.2.2.1.2.2.2.2.2.2.1.size : Int) ≤ 1201 ∧ (r.2.2.2.2.1.2.2.2.2.2.2.2.1.length : Int) ≤ 4 ∧ (∀ y ∈ r.2.2.2.2.1.2.2.2.2.2.2.2.1, 0 ≤ y ∧ y ≤ 4294967295) ∧ (r.2.2.2.2.2.1.length : Int) ≤ 3 ∧ (∀ y ∈ r.2.2.2.2.2.1, 0 ≤ y ∧ y ≤ 4294967295) ∧ True) := by
  induction d with
  | zero =>
    intro t n p0_0 p0_1 p0_2 p0_3 p0_4 p0_5 p0_6 p1_0 p1_1 p1_2 p3_0 p3_1 p3_2 p3_3 p3_4 p3_5 p3_6 p3_7 p4 t0 t1 t2 t3 h0 h1 h2 h3 h4 h5 h6 h7 h8 h9 h10 h11 h12 h13 h14 h15 h16 h17 h18 h19 h20 h21 h22 h23 h24 h25 h26 h27 h28
    refine EvP.step (fun N => spec_DrawVersionAnswer.l0.eq N _ _ _ _ _ _ _ _ _ _ _ _ _ _ _ _ _ _ _ _) ?_
    refine EvP.ite (fun c1 => ?_) (fun c1 => ?_)
    · have f2 : ([1, 2, 3, 4294967295, 0] : List Int).length = 5 := rfl
      refine EvP.andK (among_s (b := (b + 2 * t)) (P := fun y => 0 ≤ y ∧ y ≤ 4294967295) (all_cons ⟨(by (try dsimp only); omega), (by (try dsimp only); omega)⟩ (all_cons ⟨(by (try dsimp only); omega), (by (try dsimp only); omega)⟩ (all_cons ⟨(by (try dsimp only); omega), (by (try dsimp only); omega)⟩ (all_cons ⟨(by (try dsimp only); omega), (by (try dsimp only); omega)⟩ (all_cons ⟨(by (try dsimp only); omega), (by (try dsimp only); omega)⟩ all_nil))))) (by decide) h12 (by omega) (by omega) (by omega)) ?_
      intro u6 q3
      obtain ⟨q4, q5⟩ := q3
      obtain ⟨p6, p7⟩ := q4
      obtain ⟨p8, p9, p10, -⟩ := q5
      refine EvP.chk (decide_eq_true (by unfold most; omega)) ?_
      omega
    · exact EvP.some ⟨(by (try dsimp only); omega), (by (try dsimp only); omega), (by (try dsimp only); omega), (by (try dsimp only); omega), (by (try dsimp only); omega), (by (try dsimp only); omega), (by (try dsimp only); omega), (by (try dsimp only); omega), (by (try dsimp only); omega), (by (try dsimp only); omega), h12, (by (try dsimp only); omega), (by (try dsimp only); omega), (by (try dsimp only); omega), (by (try dsimp only); omega), (by (try dsimp only); omega), (by (try dsimp only); omega), (by (try dsimp only); omega), (by (try dsimp only); omega), (by (try dsimp only); omega), (by (try dsimp only); omega), (by (try dsimp only); omega), (by (try dsimp only); omega), (by (try dsimp only); omega), h26, (by (try dsimp only); omega), h28, trivial⟩
  | succ d ih =>
    intro t n p0_0 p0_1 p0_2 p0_3 p0_4 p0_5 p0_6 p1_0 p1_1 p1_2 p3_0 p3_1 p3_2 p3_3 p3_4 p3_5 p3_6 p3_7 p4 t0 t1 t2 t3 h0 h1 h2 h3 h4 h5 h6 h7 h8 h9 h10 h11 h12 h13 h14 h15 h16 h17 h18 h19 h20 h21 h22 h23 h24 h25 h26 h27 h28
    refine EvP.step (fun N => spec_DrawVersionAnswer.l0.eq N _ _ _ _ _ _ _ _ _ _ _ _ _ _ _ _ _ _ _ _) ?_
    refine EvP.ite (fun c1 => ?_) (fun c1 => ?_)
    · have f2 : ([1, 2, 3, 4294967295, 0] : List Int).length = 5 := rfl
      refine EvP.andK (among_s (b := (b + 2 * t)) (P := fun y => 0 ≤ y ∧ y ≤ 4294967295) (all_cons ⟨(by (try dsimp only); omega), (by (try dsimp only); omega)⟩ (all_cons ⟨(by (try dsimp only); omega), (by (try dsimp only); omega)⟩ (all_cons ⟨(by (try dsimp only); omega), (by (try dsimp only); omega)⟩ (all_cons ⟨(by (try dsimp only); omega), (by (try dsimp only); omega)⟩ (all_cons ⟨(by (try dsimp only); omega), (by (try dsimp only); omega)⟩ all_nil))))) (by decide) h12 (by omega) (by omega) (by omega)) ?_
      intro u6 q3
      obtain ⟨q4, q5⟩ := q3
      obtain ⟨p6, p7⟩ := q4
      obtain ⟨p8, p9, p10, -⟩ := q5
      refine EvP.chk (decide_eq_true (by unfold most; omega)) ?_
      have f11 := i64w (n := (n - 1)) (by omega) (by omega)
      have f12 : ([u6.1.1] : List Int).length = 1 := rfl
      have f13 : (p4 ++ [u6.1.1]).length = p4.length + [u6.1.1].length := List.length_append
      exact ih (t + 1) _ _ _ _ _ _ _ _ _ _ _ _ _ _ _ _ _ _ _ _ (by omega) (by omega) (by omega) (by omega) (by omega) (by omega) (by omega) (by omega) (by omega) (by omega) (by omega) (by omega) (by omega) (by omega) (by omega) (by omega) p8 (by omega) (by omega) (by omega) (by omega) (by omega) (by omega) (by omega) (by omega) (by omega) (by omega) (by omega) (by omega) (by omega) h26 (by omega) (all_app h28 (all_cons ⟨(by (try dsimp only); omega), (by (try dsimp only); omega)⟩ all_nil))
    · exact EvP.some ⟨(by (try dsimp only); omega), (by (try dsimp only); omega), (by (try dsimp only); omega), (by (try dsimp only); omega), (by (try dsimp only); omega), (by (try dsimp only); omega), (by (try dsimp only); omega), (by (try dsimp only); omega), (by (try dsimp only); omega), (by (try dsimp only); omega), h12, (by (try dsimp only); omega), (by (try dsimp only); omega), (by (try dsimp only); omega), (by (try dsimp only); omega), (by (try dsimp only); omega), (by (try dsimp only); omega), (by (try dsimp only); omega), (by (try dsimp only); omega), (by (try dsimp only); omega), (by (try dsimp only); omega), (by (try dsimp only); omega), (by (try dsimp only); omega), (by (try dsimp only); omega), h26, (by (try dsimp only); omega), h28, trivial⟩

theorem spec_DrawVersionAnswer_s {code : (List Int)} (h0 : ∀ y ∈ code, 0 ≤ y ∧ y ≤ 255) : EvP (fun N => spec_DrawVersionAnswer N code) (fun r => 0 ≤ r.1.1.1 ∧ r.1.1.1 ≤ 5 ∧ 0 ≤ r.1.1.2.1 ∧ r.1.1.2.1 ≤ 16 ∧ (-1) ≤ r.1.1.2.2.1 ∧ r.1.1.2.2.1 ≤ 4294967296 ∧ (r.1.1.2.2.2.1.size : Int) ≤ 21 ∧ (r.1.1.2.2.2.2.1.size : Int) ≤ 21 ∧ (r.1.1.2.2.2.2.2.1.size : Int) ≤ 79 ∧ (r.1.1.2.2.2.2.2.2.1.size : Int) ≤ 1201 ∧ (r.1.1.2.2.2.2.2.2.2.1.length : Int) ≤ 4 ∧ (∀ y ∈ r.1.1.2.2.2.2.2.2.2.1, 0 ≤ y ∧ y ≤ 4294967295) ∧ (r.2.1.length : Int) ≤ 3 ∧ (∀ y ∈ r.2.1, 0 ≤ y ∧ y ≤ 4294967295) ∧ True) := by
  refine EvP.of (fun N => spec_DrawVersionAnswer.eq N _) ?_
  refine EvP.andK (spec_l1Cur_header_s (b := 0) h0 (by omega) (by omega) (by omega)) ?_
  intro u1 q1
  obtain ⟨p2, p3, p4, p5, p6, p7, p8, p9, p10, p11, p12, p13, p14, p15, p16, -⟩ := q1
  refine EvP.andK (Q := fun r => 0 ≤ r.2.1.1 ∧ r.2.1.1 ≤ 0 ∧ 0 ≤ r.2.1.2.1 ∧ r.2.1.2.1 ≤ 0 ∧ 0 ≤ r.2.1.2.2.1 ∧ r.2.1.2.2.1 ≤ 0 ∧ (r.2.1.2.2.2.1.size : Int) ≤ 0 ∧ (r.2.1.2.2.2.2.1.size : Int) ≤ 0 ∧ (r.2.1.2.2.2.2.2.1.size : Int) ≤ 0 ∧ (r.2.1.2.2.2.2.2.2.1.size : Int) ≤ 0 ∧ (∀ y ∈ r.2.2.1.1, 0 ≤ y ∧ y ≤ 255) ∧ 0 ≤ r.2.2.1.2.1 ∧ r.2.2.1.2.1 ≤ 324 ∧ 0 ≤ r.2.2.2.2.1.1 ∧ r.2.2.2.2.1.1 ≤ 5 ∧ 0 ≤ r.2.2.2.2.1.2.1 ∧ r.2.2.2.2.1.2.1 ≤ 16 ∧ (-1) ≤ r.2.2.2.2.1.2.2.1 ∧ r.2.2.2.2.1.2.2.1 ≤ 4294967296 ∧ (r.2.2.2.2.1.2.2.2.1.size : Int) ≤ 21 ∧ (r.2.2.2.2.1.2.2.2.2.1.size : Int) ≤ 21 ∧ (r.2.2.2.2.1.2.2.2.2.2.1.size : Int) ≤ 79 ∧ (r.2.2.2.2.1.2.2.2.2.2.2.1.size : Int) ≤ 1201 ∧ (r.2.2.2.2.1.2.2.2.2.2.2.2.1.length : Int) ≤ 4 ∧ (∀ y ∈ r.2.2.2.2.1.2.2.2.2.2.2.2.1, 0 ≤ y ∧ y ≤ 4294967295) ∧ True) ?_ ?_
  · refine EvP.andK (one_s (b := 320) p12 (by omega) (by omega) (by omega)) ?_
    intro u2 q17
    obtain ⟨p18, p19, p20, -⟩ := q17
    refine EvP.sel (fun c21 => ?_) (fun c21 => ?_)
    · refine EvP.andK (pick_s (b := 322) (n := 3) (m := 2) p18 (by omega) (by omega) (by omega) (by omega) (by omega)) ?_
      intro u3 q22
      obtain ⟨q23, q24⟩ := q22
      obtain ⟨p25, p26, p27, p28⟩ := q23
      obtain ⟨p29, p30, p31, -⟩ := q24
      have f32 : (⟨#[]⟩ : ByteArray).size = 0 := rfl
      have f33 := i64w (n := (1 + u3.1.1)) (by omega) (by omega)
      have f34 : (⟨#[100, 101, 115, 116]⟩ : ByteArray).size = 4 := rfl
      have f35 : (⟨#[115, 114, 99]⟩ : ByteArray).size = 3 := rfl
      have f36 : (⟨#[112]⟩ : ByteArray).size = 1 := rfl
      have f37 : ([] : List Int).length = 0 := rfl
      exact EvP.some ⟨(by (try dsimp only); omega), (by (try dsimp only); omega), (by (try dsimp only); omega), (by (try dsimp only); omega), (by (try dsimp only); omega), (by (try dsimp only); omega), (by (try dsimp only); omega), (by (try dsimp only); omega), (by (try dsimp only); omega), (by (try dsimp only); omega), p29, (by (try dsimp only); omega), (by (try dsimp only); omega), (by (try dsimp only); omega), (by (try dsimp only); omega), (by (try dsimp only); omega), (by (try dsimp only); omega), (by (try dsimp only); omega), (by (try dsimp only); omega), (by (try dsimp only); omega), (by (try dsimp only); omega), (by (try dsimp only); omega), (by (try dsimp only); omega), (by (try dsimp only); omega), all_nil, trivial⟩
    · have f38 : (⟨#[]⟩ : ByteArray).size = 0 := rfl
      exact EvP.some ⟨(by (try dsimp only); omega), (by (try dsimp only); omega), (by (try dsimp only); omega), (by (try dsimp only); omega), (by (try dsimp only); omega), (by (try dsimp only); omega), (by (try dsimp only); omega), (by (try dsimp only); omega), (by (try dsimp only); omega), (by (try dsimp only); omega), p18, (by (try dsimp only); omega), (by (try dsimp only); omega), (by (try dsimp only); omega), (by (try dsimp only); omega), (by (try dsimp only); omega), (by (try dsimp only); omega), (by (try dsimp only); omega), (by (try dsimp only); omega), (by (try dsimp only); omega), (by (try dsimp only); omega), (by (try dsimp only); omega), (by (try dsimp only); omega), (by (try dsimp only); omega), p16, trivial⟩
  · intro j4 q39
    obtain ⟨p40, p41, p42, p43, p44, p45, p46, p47, p48, p49, p50, p51, p52, p53, p54, p55, p56, p57, p58, p59, p60, p61, p62, p63, p64, -⟩ := q39
    refine EvP.andK (pick_s (b := 324) (n := 4) (m := 3) p50 (by omega) (by omega) (by omega) (by omega) (by omega)) ?_
    intro u5 q65
    obtain ⟨q66, q67⟩ := q65
    obtain ⟨p68, p69, p70, p71⟩ := q66
    obtain ⟨p72, p73, p74, -⟩ := q67
    have f75 : ([] : List Int).length = 0 := rfl
    refine EvP.andK (spec_DrawVersionAnswer_l0_s (b := 326) (by omega) 3 0 _ _ _ _ _ _ _ _ _ _ _ _ _ _ _ _ _ _ _ _ (by omega) (by omega) (by omega) (by omega) (by omega) (by omega) (by omega) (by omega) (by omega) (by omega) (by omega) (by omega) (by omega) (by omega) (by omega) (by omega) p72 (by omega) (by omega) (by omega) (by omega) (by omega) (by omega) (by omega) (by omega) (by omega) (by omega) (by omega) (by omega) (by omega) p64 (by omega) all_nil) ?_
    intro l7 q76
    obtain ⟨p77, p78, p79, p80, p81, p82, p83, p84, p85, p86, p87, p88, p89, p90, p91, p92, p93, p94, p95, p96, p97, p98, p99, p100, p101, p102, p103, -⟩ := q76
    exact EvP.some ⟨(by (try dsimp only); omega), (by (try dsimp only); omega), (by (try dsimp only); omega), (by (try dsimp only); omega), (by (try dsimp only); omega), (by (try dsimp only); omega), (by (try dsimp only); omega), (by (try dsimp only); omega), (by (try dsimp only); omega), (by (try dsimp only); omega), (by (try dsimp only); omega), p101, (by (try dsimp only); omega), p103, trivial⟩

end Go.Proofs.Yteichkkbhpdjcaa.CFnCut
