/- What is drawn: it comes to an end, and how large it is. Written by a program of this session; Lean checks it. -/
import Derived.Test.YtkfpfcpmaejeoaaGreatQCuFnRetried
import Derived.Test.YtkfpfcpmaejeoaaGreatQCuAmongFnRetried
set_option linter.unusedVariables false
set_option maxRecDepth 10000
namespace Go.Proofs.YtkfpfcpmaejeoaaGreat.CFnRetried
open Go Go.Proofs Go.Proofs.YtkfpfcpmaejeoaaGreatPM Go.Proofs.YtkfpfcpmaejeoaaGreat.Q Go.Proofs.YtkfpfcpmaejeoaaGreat.GFnRetried

theorem spec_l1Cur_id_s {b : Int} {p0_0 : (List Int)} {p0_1 : Int} {p0_2 : Int} (h0 : ∀ y ∈ p0_0, 0 ≤ y ∧ y ≤ 255) (h1 : 0 ≤ p0_1) (h2 : p0_1 ≤ b) (hb : b ≤ 4611686018423999994) : EvP (fun N => spec_l1Cur_id N p0_0 p0_1 p0_2) (fun r => (r.1.1.size : Int) ≤ 21 ∧ (∀ y ∈ r.2.1.1, 0 ≤ y ∧ y ≤ 255) ∧ 0 ≤ r.2.1.2.1 ∧ r.2.1.2.1 ≤ (b + 48) ∧ True) := by
  refine EvP.of (fun N => spec_l1Cur_id.eq N _ _ _) ?_
  refine EvP.andK (pick_s (b := b) (n := 10) (m := 9) h0 (by omega) (by omega) (by omega) (by omega) (by omega)) ?_
  intro u1 q1
  obtain ⟨q2, q3⟩ := q1
  obtain ⟨p4, p5, p6, p7⟩ := q2
  obtain ⟨p8, p9, p10, -⟩ := q3
  refine EvP.andK (Q := fun r => 0 ≤ r.1.2.1 ∧ r.1.2.1 ≤ 21 ∧ (∀ y ∈ r.2.1.1, 0 ≤ y ∧ y ≤ 255) ∧ 0 ≤ r.2.1.2.1 ∧ r.2.1.2.1 ≤ (b + 6) ∧ True) ?_ ?_
  · refine EvP.andK (one_s (b := (b + 2)) p8 (by omega) (by omega) (by omega)) ?_
    intro u2 q11
    obtain ⟨p12, p13, p14, -⟩ := q11
    refine EvP.sel (fun c15 => ?_) (fun c15 => ?_)
    · have f16 : ([20, 21, 0] : List Int).length = 3 := rfl
      refine EvP.andK (among_s (b := (b + 4)) (P := fun y => 0 ≤ y ∧ y ≤ 21) (all_cons ⟨(by (try dsimp only); omega), (by (try dsimp only); omega)⟩ (all_cons ⟨(by (try dsimp only); omega), (by (try dsimp only); omega)⟩ (all_cons ⟨(by (try dsimp only); omega), (by (try dsimp only); omega)⟩ all_nil))) (by decide) p12 (by omega) (by omega) (by omega)) ?_
      intro u3 q17
      obtain ⟨q18, q19⟩ := q17
      obtain ⟨p20, p21⟩ := q18
      obtain ⟨p22, p23, p24, -⟩ := q19
      exact EvP.some ⟨(by (try dsimp only); omega), (by (try dsimp only); omega), p22, (by (try dsimp only); omega), (by (try dsimp only); omega), trivial⟩
    · exact EvP.some ⟨(by (try dsimp only); omega), (by (try dsimp only); omega), p12, (by (try dsimp only); omega), (by (try dsimp only); omega), trivial⟩
  · intro j4 q25
    obtain ⟨p26, p27, p28, p29, p30, -⟩ := q25
    refine EvP.andK (sized_s (b := (b + 6)) (n := j4.1.2.1) (m := 21) p28 (by omega) (by omega) (by decide) (by omega) (by omega) (by omega)) ?_
    intro u5 q31
    obtain ⟨p32, p33, p34, p35, p36, -⟩ := q31
    have f37 := strL_size u5.2.2.1
    exact EvP.some ⟨(by (try dsimp only); omega), p32, (by (try dsimp only); omega), (by (try dsimp only); omega), trivial⟩

theorem spec_l1Cur_header_l0_s {b : Int} (hb : b ≤ 4611686018426999992) (d : Nat) : ∀ (t : Int) (o : Int) (p0_01 : (List Int)) (p0_11 : Int) (p0_21 : Int) (p1_0 : Int) (p1_1 : Int) (p1_2 : Int) (p1_3 : ByteArray) (p1_4 : ByteArray) (p1_5 : ByteArray) (p1_6 : ByteArray) (p2 : (List Int)) (p3_0 : Int) (p3_1 : Int) (p3_2 : Int) (p3_3 : ByteArray) (p3_4 : ByteArray) (p3_5 : ByteArray) (p3_6 : ByteArray) (p4 : (List Int)), 0 ≤ t → t ≤ 4 → t + (o - 0) ≤ 4 → o - 0 ≤ (d : Int) → (-4) ≤ o → o ≤ 4 → (∀ y ∈ p0_01, 0 ≤ y ∧ y ≤ 255) → 0 ≤ p0_11 → p0_11 ≤ (b + 2 * t) → 0 ≤ p1_0 → p1_0 ≤ 0 → 0 ≤ p1_1 → p1_1 ≤ 0 → 0 ≤ p1_2 → p1_2 ≤ 0 → (p1_3.size : Int) ≤ 0 → (p1_4.size : Int) ≤ 0 → (p1_5.size : Int) ≤ 0 → (p1_6.size : Int) ≤ 0 → (p2.length : Int) ≤ 20 → (∀ y ∈ p2, 0 ≤ y ∧ y ≤ 255) → 4 ≤ p3_0 → p3_0 ≤ 4 → 0 ≤ p3_1 → p3_1 ≤ 15 → 0 ≤ p3_2 → p3_2 ≤ 0 → (p3_3.size : Int) ≤ 21 → (p3_4.size : Int) ≤ 21 → (p3_5.size : Int) ≤ 79 → (p3_6.size : Int) ≤ 0 → (p4.length : Int) ≤ t → (∀ y ∈ p4, 0 ≤ y ∧ y ≤ 4294967295) → EvP (fun N => spec_l1Cur_header.l0 N o p0_01 p0_11 p0_21 p1_0 p1_1 p1_2 p1_3 p1_4 p1_5 p1_6 p2 p3_0 p3_1 p3_2 p3_3 p3_4 p3_5 p3_6 p4) (fun r => (∀ y ∈ r.2.1.1, 0 ≤ y ∧ y ≤ 255) ∧ 0 ≤ r.2.1.2.1 ∧ r.2.1.2.1 ≤ (b + 8) ∧ 0 ≤ r.2.2.1.1 ∧ r.2.2.1.1 ≤ 0 ∧ 0 ≤ r.2.2.1.2.1 ∧ r.2.2.1.2.1 ≤ 0 ∧ 0 ≤ r.2.2.1.2.2.1 ∧ r.2.2.1.2.2.1 ≤ 0 ∧ (r.2.2.1.2.2.2.1.size : Int) ≤ 0 ∧ (r.2.2.1.2.2.2.2.1.size : Int) ≤ 0 ∧ (r.2.2.1.2.2.2.2.2.1.size : Int) ≤ 0 ∧ (r.2.2.1.2.2.2.2.2.2.1.size : Int) ≤ 0 ∧ (r.2.2.2.1.length : Int) ≤ 20 ∧ (∀ y ∈ r.2.2.2.1, 0 ≤ y ∧ y ≤ 255) ∧ 4 ≤ r.2.2.2.2.1.1 ∧ r.2.2.2.2.1.1 ≤ 4 ∧ 0 ≤ r.2.2.2.2.1.2.1 ∧ r.2.2.2.2.1.2.1 ≤ 15 ∧ 0 ≤ r.2.2.2.2.1.2.2.1 ∧ r.2.2.2.2.1.2.2.1 ≤ 0 ∧ (r.2.2.2.2.1.2.2.2.1.size : Int) ≤ 21 ∧ (r.2.2.2.2.1.2.2.2.2.1.size : Int) ≤ 21 ∧ (r.2.2.2.2.1.2.2.2.2.2.1.size : Int) ≤ 79 ∧ (r.2.2.2.2.1.2.2.2.2.2.2.1.size : Int) ≤ 0 ∧ (r.2.2.2.2.2.1.length : Int) ≤ 4 ∧ (∀ y ∈ r.2.2.2.2.2.1, 0 ≤ y ∧ y ≤ 4294967295) ∧ True) := by
  induction d with
  | zero =>
    intro t o p0_01 p0_11 p0_21 p1_0 p1_1 p1_2 p1_3 p1_4 p1_5 p1_6 p2 p3_0 p3_1 p3_2 p3_3 p3_4 p3_5 p3_6 p4 t0 t1 t2 t3 h0 h1 h2 h3 h4 h5 h6 h7 h8 h9 h10 h11 h12 h13 h14 h15 h16 h17 h18 h19 h20 h21 h22 h23 h24 h25 h26 h27 h28
    refine EvP.step (fun N => spec_l1Cur_header.l0.eq N _ _ _ _ _ _ _ _ _ _ _ _ _ _ _ _ _ _ _ _) ?_
    refine EvP.ite (fun c1 => ?_) (fun c1 => ?_)
    · have f2 : ([0, 1, 4294967295, 7] : List Int).length = 4 := rfl
      refine EvP.andK (among_s (b := (b + 2 * t)) (P := fun y => 0 ≤ y ∧ y ≤ 4294967295) (all_cons ⟨(by (try dsimp only); omega), (by (try dsimp only); omega)⟩ (all_cons ⟨(by (try dsimp only); omega), (by (try dsimp only); omega)⟩ (all_cons ⟨(by (try dsimp only); omega), (by (try dsimp only); omega)⟩ (all_cons ⟨(by (try dsimp only); omega), (by (try dsimp only); omega)⟩ all_nil)))) (by decide) h2 (by omega) (by omega) (by omega)) ?_
      intro u15 q3
      obtain ⟨q4, q5⟩ := q3
      obtain ⟨p6, p7⟩ := q4
      obtain ⟨p8, p9, p10, -⟩ := q5
      refine EvP.chk (decide_eq_true (by unfold most; omega)) ?_
      omega
    · exact EvP.some ⟨h2, (by (try dsimp only); omega), (by (try dsimp only); omega), (by (try dsimp only); omega), (by (try dsimp only); omega), (by (try dsimp only); omega), (by (try dsimp only); omega), (by (try dsimp only); omega), (by (try dsimp only); omega), (by (try dsimp only); omega), (by (try dsimp only); omega), (by (try dsimp only); omega), (by (try dsimp only); omega), (by (try dsimp only); omega), h16, (by (try dsimp only); omega), (by (try dsimp only); omega), (by (try dsimp only); omega), (by (try dsimp only); omega), (by (try dsimp only); omega), (by (try dsimp only); omega), (by (try dsimp only); omega), (by (try dsimp only); omega), (by (try dsimp only); omega), (by (try dsimp only); omega), (by (try dsimp only); omega), h28, trivial⟩
  | succ d ih =>
    intro t o p0_01 p0_11 p0_21 p1_0 p1_1 p1_2 p1_3 p1_4 p1_5 p1_6 p2 p3_0 p3_1 p3_2 p3_3 p3_4 p3_5 p3_6 p4 t0 t1 t2 t3 h0 h1 h2 h3 h4 h5 h6 h7 h8 h9 h10 h11 h12 h13 h14 h15 h16 h17 h18 h19 h20 h21 h22 h23 h24 h25 h26 h27 h28
    refine EvP.step (fun N => spec_l1Cur_header.l0.eq N _ _ _ _ _ _ _ _ _ _ _ _ _ _ _ _ _ _ _ _) ?_
    refine EvP.ite (fun c1 => ?_) (fun c1 => ?_)
    · have f2 : ([0, 1, 4294967295, 7] : List Int).length = 4 := rfl
      refine EvP.andK (among_s (b := (b + 2 * t)) (P := fun y => 0 ≤ y ∧ y ≤ 4294967295) (all_cons ⟨(by (try dsimp only); omega), (by (try dsimp only); omega)⟩ (all_cons ⟨(by (try dsimp only); omega), (by (try dsimp only); omega)⟩ (all_cons ⟨(by (try dsimp only); omega), (by (try dsimp only); omega)⟩ (all_cons ⟨(by (try dsimp only); omega), (by (try dsimp only); omega)⟩ all_nil)))) (by decide) h2 (by omega) (by omega) (by omega)) ?_
      intro u15 q3
      obtain ⟨q4, q5⟩ := q3
      obtain ⟨p6, p7⟩ := q4
      obtain ⟨p8, p9, p10, -⟩ := q5
      refine EvP.chk (decide_eq_true (by unfold most; omega)) ?_
      have f11 := i64w (n := (o - 1)) (by omega) (by omega)
      have f12 : ([u15.1.1] : List Int).length = 1 := rfl
      have f13 : (p4 ++ [u15.1.1]).length = p4.length + [u15.1.1].length := List.length_append
      exact ih (t + 1) _ _ _ _ _ _ _ _ _ _ _ _ _ _ _ _ _ _ _ _ (by omega) (by omega) (by omega) (by omega) (by omega) (by omega) p8 (by omega) (by omega) (by omega) (by omega) (by omega) (by omega) (by omega) (by omega) (by omega) (by omega) (by omega) (by omega) (by omega) h16 (by omega) (by omega) (by omega) (by omega) (by omega) (by omega) (by omega) (by omega) (by omega) (by omega) (by omega) (all_app h28 (all_cons ⟨(by (try dsimp only); omega), (by (try dsimp only); omega)⟩ all_nil))
    · exact EvP.some ⟨h2, (by (try dsimp only); omega), (by (try dsimp only); omega), (by (try dsimp only); omega), (by (try dsimp only); omega), (by (try dsimp only); omega), (by (try dsimp only); omega), (by (try dsimp only); omega), (by (try dsimp only); omega), (by (try dsimp only); omega), (by (try dsimp only); omega), (by (try dsimp only); omega), (by (try dsimp only); omega), (by (try dsimp only); omega), h16, (by (try dsimp only); omega), (by (try dsimp only); omega), (by (try dsimp only); omega), (by (try dsimp only); omega), (by (try dsimp only); omega), (by (try dsimp only); omega), (by (try dsimp only); omega), (by (try dsimp only); omega), (by (try dsimp only); omega), (by (try dsimp only); omega), (by (try dsimp only); omega), h28, trivial⟩

theorem spec_l1Cur_header_s {b : Int} {p0_0 : (List Int)} {p0_1 : Int} {p0_2 : Int} (h0 : ∀ y ∈ p0_0, 0 ≤ y ∧ y ≤ 255) (h1 : 0 ≤ p0_1) (h2 : p0_1 ≤ b) (hb : b ≤ 4611686018423999852) : EvP (fun N => spec_l1Cur_header N p0_0 p0_1 p0_2) (fun r => 0 ≤ r.1.1.1 ∧ r.1.1.1 ≤ 5 ∧ 0 ≤ r.1.1.2.1 ∧ r.1.1.2.1 ≤ 16 ∧ (-1) ≤ r.1.1.2.2.1 ∧ r.1.1.2.2.1 ≤ 4294967296 ∧ (r.1.1.2.2.2.1.size : Int) ≤ 21 ∧ (r.1.1.2.2.2.2.1.size : Int) ≤ 21 ∧ (r.1.1.2.2.2.2.2.1.size : Int) ≤ 79 ∧ (r.1.1.2.2.2.2.2.2.1.size : Int) ≤ 1201 ∧ (∀ y ∈ r.2.1.1, 0 ≤ y ∧ y ≤ 255) ∧ 0 ≤ r.2.1.2.1 ∧ r.2.1.2.1 ≤ (b + 320) ∧ (r.2.2.1.length : Int) ≤ 4 ∧ (∀ y ∈ r.2.2.1, 0 ≤ y ∧ y ≤ 4294967295) ∧ True) := by
  refine EvP.of (fun N => spec_l1Cur_header.eq N _ _ _) ?_
  refine EvP.andK (pick_s (b := b) (n := 6) (m := 5) h0 (by omega) (by omega) (by omega) (by omega) (by omega)) ?_
  intro u1 q1
  obtain ⟨q2, q3⟩ := q1
  obtain ⟨p4, p5, p6, p7⟩ := q2
  obtain ⟨p8, p9, p10, -⟩ := q3
  refine EvP.andK (pick_s (b := (b + 2)) (n := 16) (m := 15) p8 (by omega) (by omega) (by omega) (by omega) (by omega)) ?_
  intro u2 q11
  obtain ⟨q12, q13⟩ := q11
  obtain ⟨p14, p15, p16, p17⟩ := q12
  obtain ⟨p18, p19, p20, -⟩ := q13
  refine EvP.andK (spec_l1Cur_id_s (b := (b + 4)) p18 (by omega) (by omega) (by omega)) ?_
  intro u3 q21
  obtain ⟨p22, p23, p24, p25, -⟩ := q21
  refine EvP.andK (pick_s (b := (b + 52)) (n := 20) (m := 19) p23 (by omega) (by omega) (by omega) (by omega) (by omega)) ?_
  intro u4 q26
  obtain ⟨q27, q28⟩ := q26
  obtain ⟨p29, p30, p31, p32⟩ := q27
  obtain ⟨p33, p34, p35, -⟩ := q28
  have f36 := i64w (n := (1 + u4.1.1)) (by omega) (by omega)
  refine EvP.andK (sized_s (b := (b + 54)) (n := (IntKind.i64.wrap (1 + u4.1.1))) (m := 20) p33 (by omega) (by omega) (by decide) (by omega) (by omega) (by omega)) ?_
  intro u5 q37
  obtain ⟨p38, p39, p40, p41, p42, -⟩ := q37
  refine EvP.andK (Q := fun r => (∀ y ∈ r.2.1.1, 0 ≤ y ∧ y ≤ 255) ∧ 0 ≤ r.2.1.2.1 ∧ r.2.1.2.1 ≤ (b + 144) ∧ 0 ≤ r.2.2.1.1 ∧ r.2.2.1.1 ≤ 0 ∧ 0 ≤ r.2.2.1.2.1 ∧ r.2.2.1.2.1 ≤ 0 ∧ 0 ≤ r.2.2.1.2.2.1 ∧ r.2.2.1.2.2.1 ≤ 0 ∧ (r.2.2.1.2.2.2.1.size : Int) ≤ 0 ∧ (r.2.2.1.2.2.2.2.1.size : Int) ≤ 0 ∧ (r.2.2.1.2.2.2.2.2.1.size : Int) ≤ 0 ∧ (r.2.2.1.2.2.2.2.2.2.1.size : Int) ≤ 0 ∧ (r.2.2.2.1.length : Int) ≤ 20 ∧ (∀ y ∈ r.2.2.2.1, 0 ≤ y ∧ y ≤ 255) ∧ 0 ≤ r.2.2.2.2.1.1 ∧ r.2.2.2.2.1.1 ≤ 5 ∧ 0 ≤ r.2.2.2.2.1.2.1 ∧ r.2.2.2.2.1.2.1 ≤ 15 ∧ 0 ≤ r.2.2.2.2.1.2.2.1 ∧ r.2.2.2.2.1.2.2.1 ≤ 4294967295 ∧ (r.2.2.2.2.1.2.2.2.1.size : Int) ≤ 21 ∧ (r.2.2.2.2.1.2.2.2.2.1.size : Int) ≤ 21 ∧ (r.2.2.2.2.1.2.2.2.2.2.1.size : Int) ≤ 0 ∧ (r.2.2.2.2.1.2.2.2.2.2.2.1.size : Int) ≤ 20 ∧ True) ?_ ?_
  · refine EvP.nite (fun c43 => ?_) (fun c43 => ?_)
    · refine EvP.andK (spec_l1Cur_id_s (b := (b + 94)) p38 (by omega) (by omega) (by omega)) ?_
      intro u6 q44
      obtain ⟨p45, p46, p47, p48, -⟩ := q44
      have f49 : ([1, 1, 4294967295, 1798521807] : List Int).length = 4 := rfl
      refine EvP.andK (among_s (b := (b + 142)) (P := fun y => 1 ≤ y ∧ y ≤ 4294967295) (all_cons ⟨(by (try dsimp only); omega), (by (try dsimp only); omega)⟩ (all_cons ⟨(by (try dsimp only); omega), (by (try dsimp only); omega)⟩ (all_cons ⟨(by (try dsimp only); omega), (by (try dsimp only); omega)⟩ (all_cons ⟨(by (try dsimp only); omega), (by (try dsimp only); omega)⟩ all_nil)))) (by decide) p46 (by omega) (by omega) (by omega)) ?_
      intro u7 q50
      obtain ⟨q51, q52⟩ := q50
      obtain ⟨p53, p54⟩ := q51
      obtain ⟨p55, p56, p57, -⟩ := q52
      have f58 : (⟨#[]⟩ : ByteArray).size = 0 := rfl
      have f59 := strL_size u5.2.2.1
      exact EvP.some ⟨p55, (by (try dsimp only); omega), (by (try dsimp only); omega), (by (try dsimp only); omega), (by (try dsimp only); omega), (by (try dsimp only); omega), (by (try dsimp only); omega), (by (try dsimp only); omega), (by (try dsimp only); omega), (by (try dsimp only); omega), (by (try dsimp only); omega), (by (try dsimp only); omega), (by (try dsimp only); omega), (by (try dsimp only); omega), p42, (by (try dsimp only); omega), (by (try dsimp only); omega), (by (try dsimp only); omega), (by (try dsimp only); omega), (by (try dsimp only); omega), (by (try dsimp only); omega), (by (try dsimp only); omega), (by (try dsimp only); omega), (by (try dsimp only); omega), (by (try dsimp only); omega), trivial⟩
    · have f60 : (⟨#[]⟩ : ByteArray).size = 0 := rfl
      have f61 := strL_size u5.2.2.1
      exact EvP.some ⟨p38, (by (try dsimp only); omega), (by (try dsimp only); omega), (by (try dsimp only); omega), (by (try dsimp only); omega), (by (try dsimp only); omega), (by (try dsimp only); omega), (by (try dsimp only); omega), (by (try dsimp only); omega), (by (try dsimp only); omega), (by (try dsimp only); omega), (by (try dsimp only); omega), (by (try dsimp only); omega), (by (try dsimp only); omega), p42, (by (try dsimp only); omega), (by (try dsimp only); omega), (by (try dsimp only); omega), (by (try dsimp only); omega), (by (try dsimp only); omega), (by (try dsimp only); omega), (by (try dsimp only); omega), (by (try dsimp only); omega), (by (try dsimp only); omega), (by (try dsimp only); omega), trivial⟩
  · intro j8 q62
    obtain ⟨p63, p64, p65, p66, p67, p68, p69, p70, p71, p72, p73, p74, p75, p76, p77, p78, p79, p80, p81, p82, p83, p84, p85, p86, p87, -⟩ := q62
    refine EvP.andK (Q := fun r => (∀ y ∈ r.2.1.1, 0 ≤ y ∧ y ≤ 255) ∧ 0 ≤ r.2.1.2.1 ∧ r.2.1.2.1 ≤ (b + 306) ∧ 0 ≤ r.2.2.1.1 ∧ r.2.2.1.1 ≤ 0 ∧ 0 ≤ r.2.2.1.2.1 ∧ r.2.2.1.2.1 ≤ 0 ∧ 0 ≤ r.2.2.1.2.2.1 ∧ r.2.2.1.2.2.1 ≤ 0 ∧ (r.2.2.1.2.2.2.1.size : Int) ≤ 0 ∧ (r.2.2.1.2.2.2.2.1.size : Int) ≤ 0 ∧ (r.2.2.1.2.2.2.2.2.1.size : Int) ≤ 0 ∧ (r.2.2.1.2.2.2.2.2.2.1.size : Int) ≤ 0 ∧ (r.2.2.2.1.length : Int) ≤ 20 ∧ (∀ y ∈ r.2.2.2.1, 0 ≤ y ∧ y ≤ 255) ∧ 0 ≤ r.2.2.2.2.1.1 ∧ r.2.2.2.2.1.1 ≤ 5 ∧ 0 ≤ r.2.2.2.2.1.2.1 ∧ r.2.2.2.2.1.2.1 ≤ 15 ∧ 0 ≤ r.2.2.2.2.1.2.2.1 ∧ r.2.2.2.2.1.2.2.1 ≤ 4294967295 ∧ (r.2.2.2.2.1.2.2.2.1.size : Int) ≤ 21 ∧ (r.2.2.2.2.1.2.2.2.2.1.size : Int) ≤ 21 ∧ (r.2.2.2.2.1.2.2.2.2.2.1.size : Int) ≤ 79 ∧ (r.2.2.2.2.1.2.2.2.2.2.2.1.size : Int) ≤ 20 ∧ True) ?_ ?_
    · refine EvP.andK (Q := fun r => (∀ y ∈ r.2.1.1, 0 ≤ y ∧ y ≤ 255) ∧ 0 ≤ r.2.1.2.1 ∧ r.2.1.2.1 ≤ (b + 146) ∧ 0 ≤ r.2.2.1.1 ∧ r.2.2.1.1 ≤ 0 ∧ 0 ≤ r.2.2.1.2.1 ∧ r.2.2.1.2.1 ≤ 0 ∧ 0 ≤ r.2.2.1.2.2.1 ∧ r.2.2.1.2.2.1 ≤ 0 ∧ (r.2.2.1.2.2.2.1.size : Int) ≤ 0 ∧ (r.2.2.1.2.2.2.2.1.size : Int) ≤ 0 ∧ (r.2.2.1.2.2.2.2.2.1.size : Int) ≤ 0 ∧ (r.2.2.1.2.2.2.2.2.2.1.size : Int) ≤ 0 ∧ (r.2.2.2.1.length : Int) ≤ 20 ∧ (∀ y ∈ r.2.2.2.1, 0 ≤ y ∧ y ≤ 255) ∧ 0 ≤ r.2.2.2.2.1.1 ∧ r.2.2.2.2.1.1 ≤ 5 ∧ 0 ≤ r.2.2.2.2.1.2.1 ∧ r.2.2.2.2.1.2.1 ≤ 15 ∧ 0 ≤ r.2.2.2.2.1.2.2.1 ∧ r.2.2.2.2.1.2.2.1 ≤ 4294967295 ∧ (r.2.2.2.2.1.2.2.2.1.size : Int) ≤ 21 ∧ (r.2.2.2.2.1.2.2.2.2.1.size : Int) ≤ 21 ∧ (r.2.2.2.2.1.2.2.2.2.2.1.size : Int) ≤ 0 ∧ (r.2.2.2.2.1.2.2.2.2.2.2.1.size : Int) ≤ 20 ∧ (r.1.2.2.2.1 = true → j8.2.2.2.2.1.1 = 0) ∧ True) ?_ ?_
      · refine EvP.ite (fun c88 => ?_) (fun c88 => ?_)
        · refine EvP.andK (one_s (b := (b + 144)) p63 (by omega) (by omega) (by omega)) ?_
          intro u9 q89
          obtain ⟨p90, p91, p92, -⟩ := q89
          exact EvP.some ⟨p90, (by (try dsimp only); omega), (by (try dsimp only); omega), (by (try dsimp only); omega), (by (try dsimp only); omega), (by (try dsimp only); omega), (by (try dsimp only); omega), (by (try dsimp only); omega), (by (try dsimp only); omega), (by (try dsimp only); omega), (by (try dsimp only); omega), (by (try dsimp only); omega), (by (try dsimp only); omega), (by (try dsimp only); omega), p77, (by (try dsimp only); omega), (by (try dsimp only); omega), (by (try dsimp only); omega), (by (try dsimp only); omega), (by (try dsimp only); omega), (by (try dsimp only); omega), (by (try dsimp only); omega), (by (try dsimp only); omega), (by (try dsimp only); omega), (by (try dsimp only); omega), (fun h => by omega), trivial⟩
        · exact EvP.some ⟨p63, (by (try dsimp only); omega), (by (try dsimp only); omega), (by (try dsimp only); omega), (by (try dsimp only); omega), (by (try dsimp only); omega), (by (try dsimp only); omega), (by (try dsimp only); omega), (by (try dsimp only); omega), (by (try dsimp only); omega), (by (try dsimp only); omega), (by (try dsimp only); omega), (by (try dsimp only); omega), (by (try dsimp only); omega), p77, (by (try dsimp only); omega), (by (try dsimp only); omega), (by (try dsimp only); omega), (by (try dsimp only); omega), (by (try dsimp only); omega), (by (try dsimp only); omega), (by (try dsimp only); omega), (by (try dsimp only); omega), (by (try dsimp only); omega), (by (try dsimp only); omega), (fun h => by cases h), trivial⟩
      · intro j10 q93
        obtain ⟨p94, p95, p96, p97, p98, p99, p100, p101, p102, p103, p104, p105, p106, p107, p108, p109, p110, p111, p112, p113, p114, p115, p116, p117, p118, p119, -⟩ := q93
        refine EvP.sel (fun c120 => ?_) (fun c120 => ?_)
        · have f121 := p119 c120
          refine EvP.andK (pick_s (b := (b + 146)) (n := 80) (m := 79) p94 (by omega) (by omega) (by omega) (by omega) (by omega)) ?_
          intro u11 q122
          obtain ⟨q123, q124⟩ := q122
          obtain ⟨p125, p126, p127, p128⟩ := q123
          obtain ⟨p129, p130, p131, -⟩ := q124
          refine EvP.andK (sized_s (b := (b + 148)) (n := u11.1.1) (m := 79) p129 (by omega) (by omega) (by decide) (by omega) (by omega) (by omega)) ?_
          intro u12 q132
          obtain ⟨p133, p134, p135, p136, p137, -⟩ := q132
          have f138 := strL_size u12.2.2.1
          exact EvP.some ⟨p133, (by (try dsimp only); omega), (by (try dsimp only); omega), (by (try dsimp only); omega), (by (try dsimp only); omega), (by (try dsimp only); omega), (by (try dsimp only); omega), (by (try dsimp only); omega), (by (try dsimp only); omega), (by (try dsimp only); omega), (by (try dsimp only); omega), (by (try dsimp only); omega), (by (try dsimp only); omega), (by (try dsimp only); omega), p108, (by (try dsimp only); omega), (by (try dsimp only); omega), (by (try dsimp only); omega), (by (try dsimp only); omega), (by (try dsimp only); omega), (by (try dsimp only); omega), (by (try dsimp only); omega), (by (try dsimp only); omega), (by (try dsimp only); omega), (by (try dsimp only); omega), trivial⟩
        · exact EvP.some ⟨p94, (by (try dsimp only); omega), (by (try dsimp only); omega), (by (try dsimp only); omega), (by (try dsimp only); omega), (by (try dsimp only); omega), (by (try dsimp only); omega), (by (try dsimp only); omega), (by (try dsimp only); omega), (by (try dsimp only); omega), (by (try dsimp only); omega), (by (try dsimp only); omega), (by (try dsimp only); omega), (by (try dsimp only); omega), p108, (by (try dsimp only); omega), (by (try dsimp only); omega), (by (try dsimp only); omega), (by (try dsimp only); omega), (by (try dsimp only); omega), (by (try dsimp only); omega), (by (try dsimp only); omega), (by (try dsimp only); omega), (by (try dsimp only); omega), (by (try dsimp only); omega), trivial⟩
    · intro j13 q139
      obtain ⟨p140, p141, p142, p143, p144, p145, p146, p147, p148, p149, p150, p151, p152, p153, p154, p155, p156, p157, p158, p159, p160, p161, p162, p163, p164, -⟩ := q139
      refine EvP.andK (Q := fun r => (∀ y ∈ r.2.1.1, 0 ≤ y ∧ y ≤ 255) ∧ 0 ≤ r.2.1.2.1 ∧ r.2.1.2.1 ≤ (b + 316) ∧ 0 ≤ r.2.2.1.1 ∧ r.2.2.1.1 ≤ 0 ∧ 0 ≤ r.2.2.1.2.1 ∧ r.2.2.1.2.1 ≤ 0 ∧ 0 ≤ r.2.2.1.2.2.1 ∧ r.2.2.1.2.2.1 ≤ 0 ∧ (r.2.2.1.2.2.2.1.size : Int) ≤ 0 ∧ (r.2.2.1.2.2.2.2.1.size : Int) ≤ 0 ∧ (r.2.2.1.2.2.2.2.2.1.size : Int) ≤ 0 ∧ (r.2.2.1.2.2.2.2.2.2.1.size : Int) ≤ 0 ∧ (r.2.2.2.1.length : Int) ≤ 20 ∧ (∀ y ∈ r.2.2.2.1, 0 ≤ y ∧ y ≤ 255) ∧ 0 ≤ r.2.2.2.2.1.1 ∧ r.2.2.2.2.1.1 ≤ 5 ∧ 0 ≤ r.2.2.2.2.1.2.1 ∧ r.2.2.2.2.1.2.1 ≤ 15 ∧ 0 ≤ r.2.2.2.2.1.2.2.1 ∧ r.2.2.2.2.1.2.2.1 ≤ 4294967295 ∧ (r.2.2.2.2.1.2.2.2.1.size : Int) ≤ 21 ∧ (r.2.2.2.2.1.2.2.2.2.1.size : Int) ≤ 21 ∧ (r.2.2.2.2.1.2.2.2.2.2.1.size : Int) ≤ 79 ∧ (r.2.2.2.2.1.2.2.2.2.2.2.1.size : Int) ≤ 20 ∧ (r.2.2.2.2.2.1.length : Int) ≤ 4 ∧ (∀ y ∈ r.2.2.2.2.2.1, 0 ≤ y ∧ y ≤ 4294967295) ∧ True) ?_ ?_
      · refine EvP.ite (fun c165 => ?_) (fun c165 => ?_)
        · refine EvP.andK (pick_s (b := (b + 306)) (n := 4) (m := 3) p140 (by omega) (by omega) (by omega) (by omega) (by omega)) ?_
          intro u14 q166
          obtain ⟨q167, q168⟩ := q166
          obtain ⟨p169, p170, p171, p172⟩ := q167
          obtain ⟨p173, p174, p175, -⟩ := q168
          have f176 := i64w (n := (1 + u14.1.1)) (by omega) (by omega)
          have f177 : (⟨#[]⟩ : ByteArray).size = 0 := rfl
          have f178 : ([] : List Int).length = 0 := rfl
          refine EvP.andK (spec_l1Cur_header_l0_s (b := (b + 308)) (by omega) 4 0 _ _ _ _ _ _ _ _ _ _ _ _ _ _ _ _ _ _ _ _ (by omega) (by omega) (by omega) (by omega) (by omega) (by omega) p173 (by omega) (by omega) (by omega) (by omega) (by omega) (by omega) (by omega) (by omega) (by omega) (by omega) (by omega) (by omega) (by omega) p154 (by omega) (by omega) (by omega) (by omega) (by omega) (by omega) (by omega) (by omega) (by omega) (by omega) (by omega) all_nil) ?_
          intro l16 q179
          obtain ⟨p180, p181, p182, p183, p184, p185, p186, p187, p188, p189, p190, p191, p192, p193, p194, p195, p196, p197, p198, p199, p200, p201, p202, p203, p204, p205, p206, -⟩ := q179
          exact EvP.some ⟨p180, (by (try dsimp only); omega), (by (try dsimp only); omega), (by (try dsimp only); omega), (by (try dsimp only); omega), (by (try dsimp only); omega), (by (try dsimp only); omega), (by (try dsimp only); omega), (by (try dsimp only); omega), (by (try dsimp only); omega), (by (try dsimp only); omega), (by (try dsimp only); omega), (by (try dsimp only); omega), (by (try dsimp only); omega), p194, (by (try dsimp only); omega), (by (try dsimp only); omega), (by (try dsimp only); omega), (by (try dsimp only); omega), (by (try dsimp only); omega), (by (try dsimp only); omega), (by (try dsimp only); omega), (by (try dsimp only); omega), (by (try dsimp only); omega), (by (try dsimp only); omega), (by (try dsimp only); omega), p206, trivial⟩
        · have f207 : ([] : List Int).length = 0 := rfl
          exact EvP.some ⟨p140, (by (try dsimp only); omega), (by (try dsimp only); omega), (by (try dsimp only); omega), (by (try dsimp only); omega), (by (try dsimp only); omega), (by (try dsimp only); omega), (by (try dsimp only); omega), (by (try dsimp only); omega), (by (try dsimp only); omega), (by (try dsimp only); omega), (by (try dsimp only); omega), (by (try dsimp only); omega), (by (try dsimp only); omega), p154, (by (try dsimp only); omega), (by (try dsimp only); omega), (by (try dsimp only); omega), (by (try dsimp only); omega), (by (try dsimp only); omega), (by (try dsimp only); omega), (by (try dsimp only); omega), (by (try dsimp only); omega), (by (try dsimp only); omega), (by (try dsimp only); omega), (by (try dsimp only); omega), all_nil, trivial⟩
      · intro j17 q208
        obtain ⟨p209, p210, p211, p212, p213, p214, p215, p216, p217, p218, p219, p220, p221, p222, p223, p224, p225, p226, p227, p228, p229, p230, p231, p232, p233, p234, p235, -⟩ := q208
        refine EvP.andK (pick_s (b := (b + 316)) (n := 40) (m := 39) p209 (by omega) (by omega) (by omega) (by omega) (by omega)) ?_
        intro u18 q236
        obtain ⟨q237, q238⟩ := q236
        obtain ⟨p239, p240, p241, p242⟩ := q237
        obtain ⟨p243, p244, p245, -⟩ := q238
        refine EvP.ite (fun c246 => ?_) (fun c246 => ?_)
        · exact EvP.some ⟨(by (try dsimp only); omega), (by (try dsimp only); omega), (by (try dsimp only); omega), (by (try dsimp only); omega), (by (try dsimp only); omega), (by (try dsimp only); omega), (by (try dsimp only); omega), (by (try dsimp only); omega), (by (try dsimp only); omega), (by (try dsimp only); omega), p243, (by (try dsimp only); omega), (by (try dsimp only); omega), (by (try dsimp only); omega), p235, trivial⟩
        · refine EvP.ite (fun c247 => ?_) (fun c247 => ?_)
          · have f248 : ([(-1), 0, 4294967296] : List Int).length = 3 := rfl
            refine EvP.andK (among_s (b := (b + 318)) (P := fun y => (-1) ≤ y ∧ y ≤ 4294967296) (all_cons ⟨(by (try dsimp only); omega), (by (try dsimp only); omega)⟩ (all_cons ⟨(by (try dsimp only); omega), (by (try dsimp only); omega)⟩ (all_cons ⟨(by (try dsimp only); omega), (by (try dsimp only); omega)⟩ all_nil))) (by decide) p243 (by omega) (by omega) (by omega)) ?_
            intro u19 q249
            obtain ⟨q250, q251⟩ := q249
            obtain ⟨p252, p253⟩ := q250
            obtain ⟨p254, p255, p256, -⟩ := q251
            exact EvP.some ⟨(by (try dsimp only); omega), (by (try dsimp only); omega), (by (try dsimp only); omega), (by (try dsimp only); omega), (by (try dsimp only); omega), (by (try dsimp only); omega), (by (try dsimp only); omega), (by (try dsimp only); omega), (by (try dsimp only); omega), (by (try dsimp only); omega), p254, (by (try dsimp only); omega), (by (try dsimp only); omega), (by (try dsimp only); omega), p235, trivial⟩
          · refine EvP.ite (fun c257 => ?_) (fun c257 => ?_)
            · have f258 : ([0, 1200, 1201] : List Int).length = 3 := rfl
              refine EvP.andK (among_s (b := (b + 318)) (P := fun y => 0 ≤ y ∧ y ≤ 1201) (all_cons ⟨(by (try dsimp only); omega), (by (try dsimp only); omega)⟩ (all_cons ⟨(by (try dsimp only); omega), (by (try dsimp only); omega)⟩ (all_cons ⟨(by (try dsimp only); omega), (by (try dsimp only); omega)⟩ all_nil))) (by decide) p243 (by omega) (by omega) (by omega)) ?_
              intro u20 q259
              obtain ⟨q260, q261⟩ := q259
              obtain ⟨p262, p263⟩ := q260
              obtain ⟨p264, p265, p266, -⟩ := q261
              refine EvP.chk (and_i (decide_eq_true (by omega)) (and_i (smallI_i (by omega) (by omega)) (decide_eq_true (by omega)))) ?_
              have f267 : (List.replicate (Int.toNat u20.1.1) (0 : Int)).length = _ := List.length_replicate
              have f268 := strL_size (List.replicate (Int.toNat u20.1.1) (0 : Int))
              exact EvP.some ⟨(by (try dsimp only); omega), (by (try dsimp only); omega), (by (try dsimp only); omega), (by (try dsimp only); omega), (by (try dsimp only); omega), (by (try dsimp only); omega), (by (try dsimp only); omega), (by (try dsimp only); omega), (by (try dsimp only); omega), (by (try dsimp only); omega), p264, (by (try dsimp only); omega), (by (try dsimp only); omega), (by (try dsimp only); omega), p235, trivial⟩
            · refine EvP.ite (fun c269 => ?_) (fun c269 => ?_)
              · have f270 : (⟨#[116]⟩ : ByteArray).size = 1 := rfl
                exact EvP.some ⟨(by (try dsimp only); omega), (by (try dsimp only); omega), (by (try dsimp only); omega), (by (try dsimp only); omega), (by (try dsimp only); omega), (by (try dsimp only); omega), (by (try dsimp only); omega), (by (try dsimp only); omega), (by (try dsimp only); omega), (by (try dsimp only); omega), p243, (by (try dsimp only); omega), (by (try dsimp only); omega), (by (try dsimp only); omega), p235, trivial⟩
              · exact EvP.some ⟨(by (try dsimp only); omega), (by (try dsimp only); omega), (by (try dsimp only); omega), (by (try dsimp only); omega), (by (try dsimp only); omega), (by (try dsimp only); omega), (by (try dsimp only); omega), (by (try dsimp only); omega), (by (try dsimp only); omega), (by (try dsimp only); omega), p243, (by (try dsimp only); omega), (by (try dsimp only); omega), (by (try dsimp only); omega), p235, trivial⟩

theorem spec_l1Cur_short_s {b : Int} {p0_0 : (List Int)} {p0_1 : Int} {p0_2 : Int} (h0 : ∀ y ∈ p0_0, 0 ≤ y ∧ y ≤ 255) (h1 : 0 ≤ p0_1) (h2 : p0_1 ≤ b) (hb : b ≤ 4611686018423999994) : EvP (fun N => spec_l1Cur_short N p0_0 p0_1 p0_2) (fun r => (r.1.1.size : Int) ≤ 39 ∧ (∀ y ∈ r.2.1.1, 0 ≤ y ∧ y ≤ 255) ∧ 0 ≤ r.2.1.2.1 ∧ r.2.1.2.1 ≤ (b + 84) ∧ True) := by
  refine EvP.of (fun N => spec_l1Cur_short.eq N _ _ _) ?_
  refine EvP.andK (pick_s (b := b) (n := 40) (m := 39) h0 (by omega) (by omega) (by omega) (by omega) (by omega)) ?_
  intro u1 q1
  obtain ⟨q2, q3⟩ := q1
  obtain ⟨p4, p5, p6, p7⟩ := q2
  obtain ⟨p8, p9, p10, -⟩ := q3
  refine EvP.andK (Q := fun r => 0 ≤ r.1.2.1 ∧ r.1.2.1 ≤ 39 ∧ (∀ y ∈ r.2.1.1, 0 ≤ y ∧ y ≤ 255) ∧ 0 ≤ r.2.1.2.1 ∧ r.2.1.2.1 ≤ (b + 6) ∧ True) ?_ ?_
  · refine EvP.andK (one_s (b := (b + 2)) p8 (by omega) (by omega) (by omega)) ?_
    intro u2 q11
    obtain ⟨p12, p13, p14, -⟩ := q11
    refine EvP.sel (fun c15 => ?_) (fun c15 => ?_)
    · have f16 : ([0, 15, 16, 17, 32] : List Int).length = 5 := rfl
      refine EvP.andK (among_s (b := (b + 4)) (P := fun y => 0 ≤ y ∧ y ≤ 32) (all_cons ⟨(by (try dsimp only); omega), (by (try dsimp only); omega)⟩ (all_cons ⟨(by (try dsimp only); omega), (by (try dsimp only); omega)⟩ (all_cons ⟨(by (try dsimp only); omega), (by (try dsimp only); omega)⟩ (all_cons ⟨(by (try dsimp only); omega), (by (try dsimp only); omega)⟩ (all_cons ⟨(by (try dsimp only); omega), (by (try dsimp only); omega)⟩ all_nil))))) (by decide) p12 (by omega) (by omega) (by omega)) ?_
      intro u3 q17
      obtain ⟨q18, q19⟩ := q17
      obtain ⟨p20, p21⟩ := q18
      obtain ⟨p22, p23, p24, -⟩ := q19
      exact EvP.some ⟨(by (try dsimp only); omega), (by (try dsimp only); omega), p22, (by (try dsimp only); omega), (by (try dsimp only); omega), trivial⟩
    · exact EvP.some ⟨(by (try dsimp only); omega), (by (try dsimp only); omega), p12, (by (try dsimp only); omega), (by (try dsimp only); omega), trivial⟩
  · intro j4 q25
    obtain ⟨p26, p27, p28, p29, p30, -⟩ := q25
    refine EvP.andK (sized_s (b := (b + 6)) (n := j4.1.2.1) (m := 39) p28 (by omega) (by omega) (by decide) (by omega) (by omega) (by omega)) ?_
    intro u5 q31
    obtain ⟨p32, p33, p34, p35, p36, -⟩ := q31
    have f37 := strL_size u5.2.2.1
    exact EvP.some ⟨(by (try dsimp only); omega), p32, (by (try dsimp only); omega), (by (try dsimp only); omega), trivial⟩

theorem spec_DrawRetryPacket_s {code : (List Int)} (h0 : ∀ y ∈ code, 0 ≤ y ∧ y ≤ 255) : EvP (fun N => spec_DrawRetryPacket N code) (fun r => 0 ≤ r.1.1.1 ∧ r.1.1.1 ≤ 5 ∧ 0 ≤ r.1.1.2.1 ∧ r.1.1.2.1 ≤ 16 ∧ (-1) ≤ r.1.1.2.2.1 ∧ r.1.1.2.2.1 ≤ 4294967296 ∧ (r.1.1.2.2.2.1.size : Int) ≤ 21 ∧ (r.1.1.2.2.2.2.1.size : Int) ≤ 21 ∧ (r.1.1.2.2.2.2.2.1.size : Int) ≤ 79 ∧ (r.1.1.2.2.2.2.2.2.1.size : Int) ≤ 1201 ∧ (r.1.1.2.2.2.2.2.2.2.1.length : Int) ≤ 4 ∧ (∀ y ∈ r.1.1.2.2.2.2.2.2.2.1, 0 ≤ y ∧ y ≤ 4294967295) ∧ (r.1.2.1.size : Int) ≤ 39 ∧ (r.1.2.2.1.size : Int) ≤ 21 ∧ True) := by
  refine EvP.of (fun N => spec_DrawRetryPacket.eq N _) ?_
  refine EvP.andK (spec_l1Cur_header_s (b := 0) h0 (by omega) (by omega) (by omega)) ?_
  intro u1 q1
  obtain ⟨p2, p3, p4, p5, p6, p7, p8, p9, p10, p11, p12, p13, p14, p15, p16, -⟩ := q1
  refine EvP.andK (Q := fun r => 0 ≤ r.2.1.1 ∧ r.2.1.1 ≤ 0 ∧ 0 ≤ r.2.1.2.1 ∧ r.2.1.2.1 ≤ 0 ∧ 0 ≤ r.2.1.2.2.1 ∧ r.2.1.2.2.1 ≤ 0 ∧ (r.2.1.2.2.2.1.size : Int) ≤ 0 ∧ (r.2.1.2.2.2.2.1.size : Int) ≤ 0 ∧ (r.2.1.2.2.2.2.2.1.size : Int) ≤ 0 ∧ (r.2.1.2.2.2.2.2.2.1.size : Int) ≤ 0 ∧ (∀ y ∈ r.2.2.1.1, 0 ≤ y ∧ y ≤ 255) ∧ 0 ≤ r.2.2.1.2.1 ∧ r.2.2.1.2.1 ≤ 418 ∧ 0 ≤ r.2.2.2.2.1.1 ∧ r.2.2.2.2.1.1 ≤ 5 ∧ 0 ≤ r.2.2.2.2.1.2.1 ∧ r.2.2.2.2.1.2.1 ≤ 16 ∧ (-1) ≤ r.2.2.2.2.1.2.2.1 ∧ r.2.2.2.2.1.2.2.1 ≤ 4294967296 ∧ (r.2.2.2.2.1.2.2.2.1.size : Int) ≤ 21 ∧ (r.2.2.2.2.1.2.2.2.2.1.size : Int) ≤ 21 ∧ (r.2.2.2.2.1.2.2.2.2.2.1.size : Int) ≤ 79 ∧ (r.2.2.2.2.1.2.2.2.2.2.2.1.size : Int) ≤ 1201 ∧ (r.2.2.2.2.1.2.2.2.2.2.2.2.1.length : Int) ≤ 4 ∧ (∀ y ∈ r.2.2.2.2.1.2.2.2.2.2.2.2.1, 0 ≤ y ∧ y ≤ 4294967295) ∧ True) ?_ ?_
  · refine EvP.andK (one_s (b := 320) p12 (by omega) (by omega) (by omega)) ?_
    intro u2 q17
    obtain ⟨p18, p19, p20, -⟩ := q17
    refine EvP.sel (fun c21 => ?_) (fun c21 => ?_)
    · refine EvP.andK (spec_l1Cur_id_s (b := 322) p18 (by omega) (by omega) (by omega)) ?_
      intro u3 q22
      obtain ⟨p23, p24, p25, p26, -⟩ := q22
      refine EvP.andK (spec_l1Cur_id_s (b := 370) p24 (by omega) (by omega) (by omega)) ?_
      intro u4 q27
      obtain ⟨p28, p29, p30, p31, -⟩ := q27
      have f32 : (⟨#[]⟩ : ByteArray).size = 0 := rfl
      have f33 : (⟨#[112]⟩ : ByteArray).size = 1 := rfl
      have f34 : ([] : List Int).length = 0 := rfl
      exact EvP.some ⟨(by (try dsimp only); omega), (by (try dsimp only); omega), (by (try dsimp only); omega), (by (try dsimp only); omega), (by (try dsimp only); omega), (by (try dsimp only); omega), (by (try dsimp only); omega), (by (try dsimp only); omega), (by (try dsimp only); omega), (by (try dsimp only); omega), p29, (by (try dsimp only); omega), (by (try dsimp only); omega), (by (try dsimp only); omega), (by (try dsimp only); omega), (by (try dsimp only); omega), (by (try dsimp only); omega), (by (try dsimp only); omega), (by (try dsimp only); omega), (by (try dsimp only); omega), (by (try dsimp only); omega), (by (try dsimp only); omega), (by (try dsimp only); omega), (by (try dsimp only); omega), all_nil, trivial⟩
    · have f35 : (⟨#[]⟩ : ByteArray).size = 0 := rfl
      exact EvP.some ⟨(by (try dsimp only); omega), (by (try dsimp only); omega), (by (try dsimp only); omega), (by (try dsimp only); omega), (by (try dsimp only); omega), (by (try dsimp only); omega), (by (try dsimp only); omega), (by (try dsimp only); omega), (by (try dsimp only); omega), (by (try dsimp only); omega), p18, (by (try dsimp only); omega), (by (try dsimp only); omega), (by (try dsimp only); omega), (by (try dsimp only); omega), (by (try dsimp only); omega), (by (try dsimp only); omega), (by (try dsimp only); omega), (by (try dsimp only); omega), (by (try dsimp only); omega), (by (try dsimp only); omega), (by (try dsimp only); omega), (by (try dsimp only); omega), (by (try dsimp only); omega), p16, trivial⟩
  · intro j5 q36
    obtain ⟨p37, p38, p39, p40, p41, p42, p43, p44, p45, p46, p47, p48, p49, p50, p51, p52, p53, p54, p55, p56, p57, p58, p59, p60, p61, -⟩ := q36
    refine EvP.andK (spec_l1Cur_short_s (b := 418) p47 (by omega) (by omega) (by omega)) ?_
    intro u6 q62
    obtain ⟨p63, p64, p65, p66, -⟩ := q62
    refine EvP.andK (spec_l1Cur_id_s (b := 502) p64 (by omega) (by omega) (by omega)) ?_
    intro u7 q67
    obtain ⟨p68, p69, p70, p71, -⟩ := q67
    exact EvP.some ⟨(by (try dsimp only); omega), (by (try dsimp only); omega), (by (try dsimp only); omega), (by (try dsimp only); omega), (by (try dsimp only); omega), (by (try dsimp only); omega), (by (try dsimp only); omega), (by (try dsimp only); omega), (by (try dsimp only); omega), (by (try dsimp only); omega), (by (try dsimp only); omega), p61, (by (try dsimp only); omega), (by (try dsimp only); omega), trivial⟩

end Go.Proofs.YtkfpfcpmaejeoaaGreat.CFnRetried
