/- What is drawn: it comes to an end, and how large it is. Written by a program of this session; Lean checks it. -/
import Derived.Test.YtbfkfhadcmpndaaQCuFnFrames
import Derived.Test.YtbfkfhadcmpndaaQCuAmongFnFrames
set_option linter.unusedVariables false
set_option maxRecDepth 10000
namespace Go.Proofs.Ytbfkfhadcmpndaa.CFnFrames
open Go Go.Proofs Go.Proofs.YtbfkfhadcmpndaaPM Go.Proofs.Ytbfkfhadcmpndaa.Q Go.Proofs.Ytbfkfhadcmpndaa.GFnFrames

theorem spec_l1Shape_s {kind : Int} (h0 : 0 ≤ kind) (h1 : kind ≤ 48) : EvP (fun N => spec_l1Shape N kind) (fun r => (-1) ≤ r.1.1 ∧ r.1.1 ≤ 3 ∧ 0 ≤ r.1.2.1 ∧ r.1.2.1 ≤ 8 ∧ 0 ≤ r.1.2.2.1 ∧ r.1.2.2.1 ≤ 200 ∧ True) := by
  refine EvP.of (fun N => spec_l1Shape.eq N _) ?_
  refine EvP.ite (fun c1 => ?_) (fun c1 => ?_)
  · refine EvP.ite (fun c2 => ?_) (fun c2 => ?_)
    · exact EvP.some ⟨(by (try dsimp only); omega), (by (try dsimp only); omega), (by (try dsimp only); omega), (by (try dsimp only); omega), (by (try dsimp only); omega), (by (try dsimp only); omega), trivial⟩
    · refine EvP.neg (by omega) ?_
      refine EvP.neg (by omega) ?_
      refine EvP.neg (by omega) ?_
      refine EvP.neg (by omega) ?_
      refine EvP.neg (by omega) ?_
      refine EvP.neg (by omega) ?_
      refine EvP.neg (by omega) ?_
      refine EvP.neg (by omega) ?_
      refine EvP.neg (by omega) ?_
      refine EvP.neg (by omega) ?_
      refine EvP.neg (by omega) ?_
      refine EvP.neg (by omega) ?_
      refine EvP.neg (by omega) ?_
      exact EvP.some ⟨(by (try dsimp only); omega), (by (try dsimp only); omega), (by (try dsimp only); omega), (by (try dsimp only); omega), (by (try dsimp only); omega), (by (try dsimp only); omega), trivial⟩
  · refine EvP.ite (fun c16 => ?_) (fun c16 => ?_)
    · exact EvP.some ⟨(by (try dsimp only); omega), (by (try dsimp only); omega), (by (try dsimp only); omega), (by (try dsimp only); omega), (by (try dsimp only); omega), (by (try dsimp only); omega), trivial⟩
    · refine EvP.ite (fun c17 => ?_) (fun c17 => ?_)
      · refine EvP.ite (fun c18 => ?_) (fun c18 => ?_)
        · exact EvP.some ⟨(by (try dsimp only); omega), (by (try dsimp only); omega), (by (try dsimp only); omega), (by (try dsimp only); omega), (by (try dsimp only); omega), (by (try dsimp only); omega), trivial⟩
        · refine EvP.neg (by omega) ?_
          refine EvP.neg (by omega) ?_
          refine EvP.neg (by omega) ?_
          refine EvP.neg (by omega) ?_
          refine EvP.neg (by omega) ?_
          refine EvP.neg (by omega) ?_
          refine EvP.neg (by omega) ?_
          refine EvP.neg (by omega) ?_
          refine EvP.neg (by omega) ?_
          refine EvP.neg (by omega) ?_
          refine EvP.neg (by omega) ?_
          exact EvP.some ⟨(by (try dsimp only); omega), (by (try dsimp only); omega), (by (try dsimp only); omega), (by (try dsimp only); omega), (by (try dsimp only); omega), (by (try dsimp only); omega), trivial⟩
      · refine EvP.ite (fun c30 => ?_) (fun c30 => ?_)
        · exact EvP.some ⟨(by (try dsimp only); omega), (by (try dsimp only); omega), (by (try dsimp only); omega), (by (try dsimp only); omega), (by (try dsimp only); omega), (by (try dsimp only); omega), trivial⟩
        · refine EvP.ite (fun c31 => ?_) (fun c31 => ?_)
          · refine EvP.ite (fun c32 => ?_) (fun c32 => ?_)
            · exact EvP.some ⟨(by (try dsimp only); omega), (by (try dsimp only); omega), (by (try dsimp only); omega), (by (try dsimp only); omega), (by (try dsimp only); omega), (by (try dsimp only); omega), trivial⟩
            · refine EvP.neg (by omega) ?_
              refine EvP.neg (by omega) ?_
              refine EvP.neg (by omega) ?_
              refine EvP.neg (by omega) ?_
              refine EvP.neg (by omega) ?_
              refine EvP.neg (by omega) ?_
              refine EvP.neg (by omega) ?_
              refine EvP.neg (by omega) ?_
              refine EvP.neg (by omega) ?_
              exact EvP.some ⟨(by (try dsimp only); omega), (by (try dsimp only); omega), (by (try dsimp only); omega), (by (try dsimp only); omega), (by (try dsimp only); omega), (by (try dsimp only); omega), trivial⟩
          · refine EvP.ite (fun c42 => ?_) (fun c42 => ?_)
            · exact EvP.some ⟨(by (try dsimp only); omega), (by (try dsimp only); omega), (by (try dsimp only); omega), (by (try dsimp only); omega), (by (try dsimp only); omega), (by (try dsimp only); omega), trivial⟩
            · refine EvP.ite (fun c43 => ?_) (fun c43 => ?_)
              · exact EvP.some ⟨(by (try dsimp only); omega), (by (try dsimp only); omega), (by (try dsimp only); omega), (by (try dsimp only); omega), (by (try dsimp only); omega), (by (try dsimp only); omega), trivial⟩
              · refine EvP.ite (fun c44 => ?_) (fun c44 => ?_)
                · refine EvP.ite (fun c45 => ?_) (fun c45 => ?_)
                  · exact EvP.some ⟨(by (try dsimp only); omega), (by (try dsimp only); omega), (by (try dsimp only); omega), (by (try dsimp only); omega), (by (try dsimp only); omega), (by (try dsimp only); omega), trivial⟩
                  · refine EvP.neg (by omega) ?_
                    refine EvP.neg (by omega) ?_
                    refine EvP.neg (by omega) ?_
                    refine EvP.neg (by omega) ?_
                    refine EvP.neg (by omega) ?_
                    refine EvP.neg (by omega) ?_
                    exact EvP.some ⟨(by (try dsimp only); omega), (by (try dsimp only); omega), (by (try dsimp only); omega), (by (try dsimp only); omega), (by (try dsimp only); omega), (by (try dsimp only); omega), trivial⟩
                · refine EvP.ite (fun c52 => ?_) (fun c52 => ?_)
                  · exact EvP.some ⟨(by (try dsimp only); omega), (by (try dsimp only); omega), (by (try dsimp only); omega), (by (try dsimp only); omega), (by (try dsimp only); omega), (by (try dsimp only); omega), trivial⟩
                  · refine EvP.ite (fun c53 => ?_) (fun c53 => ?_)
                    · exact EvP.some ⟨(by (try dsimp only); omega), (by (try dsimp only); omega), (by (try dsimp only); omega), (by (try dsimp only); omega), (by (try dsimp only); omega), (by (try dsimp only); omega), trivial⟩
                    · refine EvP.ite (fun c54 => ?_) (fun c54 => ?_)
                      · exact EvP.some ⟨(by (try dsimp only); omega), (by (try dsimp only); omega), (by (try dsimp only); omega), (by (try dsimp only); omega), (by (try dsimp only); omega), (by (try dsimp only); omega), trivial⟩
                      · refine EvP.ite (fun c55 => ?_) (fun c55 => ?_)
                        · exact EvP.some ⟨(by (try dsimp only); omega), (by (try dsimp only); omega), (by (try dsimp only); omega), (by (try dsimp only); omega), (by (try dsimp only); omega), (by (try dsimp only); omega), trivial⟩
                        · refine EvP.ite (fun c56 => ?_) (fun c56 => ?_)
                          · refine EvP.ite (fun c57 => ?_) (fun c57 => ?_)
                            · exact EvP.some ⟨(by (try dsimp only); omega), (by (try dsimp only); omega), (by (try dsimp only); omega), (by (try dsimp only); omega), (by (try dsimp only); omega), (by (try dsimp only); omega), trivial⟩
                            · refine EvP.neg (by omega) ?_
                              exact EvP.some ⟨(by (try dsimp only); omega), (by (try dsimp only); omega), (by (try dsimp only); omega), (by (try dsimp only); omega), (by (try dsimp only); omega), (by (try dsimp only); omega), trivial⟩
                          · refine EvP.ite (fun c59 => ?_) (fun c59 => ?_)
                            · exact EvP.some ⟨(by (try dsimp only); omega), (by (try dsimp only); omega), (by (try dsimp only); omega), (by (try dsimp only); omega), (by (try dsimp only); omega), (by (try dsimp only); omega), trivial⟩
                            · refine EvP.ite (fun c60 => ?_) (fun c60 => ?_)
                              · exact EvP.some ⟨(by (try dsimp only); omega), (by (try dsimp only); omega), (by (try dsimp only); omega), (by (try dsimp only); omega), (by (try dsimp only); omega), (by (try dsimp only); omega), trivial⟩
                              · exact EvP.some ⟨(by (try dsimp only); omega), (by (try dsimp only); omega), (by (try dsimp only); omega), (by (try dsimp only); omega), (by (try dsimp only); omega), (by (try dsimp only); omega), trivial⟩

theorem spec_l1Cur_wide_l0_s {b : Int} (hb : b ≤ 4611686018426999992) (d : Nat) : ∀ (t : Int) (n : Int) (i : Int) (p0_01 : (List Int)) (p0_11 : Int) (p0_21 : Int), 0 ≤ t → t ≤ 8 → t + (8 - i) ≤ 8 → 8 - i ≤ (d : Int) → (-9223372036854775808) ≤ n → n ≤ 9223372036854775807 → 0 ≤ i → i ≤ 9 → (∀ y ∈ p0_01, 0 ≤ y ∧ y ≤ 255) → 0 ≤ p0_11 → p0_11 ≤ (b + t) → EvP (fun N => spec_l1Cur_wide.l0 N n i p0_01 p0_11 p0_21) (fun r => (-9223372036854775808) ≤ r.1.1 ∧ r.1.1 ≤ 9223372036854775807 ∧ (∀ y ∈ r.2.1.1, 0 ≤ y ∧ y ≤ 255) ∧ 0 ≤ r.2.1.2.1 ∧ r.2.1.2.1 ≤ (b + 8) ∧ True) := by
  induction d with
  | zero =>
    intro t n i p0_01 p0_11 p0_21 t0 t1 t2 t3 h0 h1 h2 h3 h4 h5 h6
    refine EvP.step (fun N => spec_l1Cur_wide.l0.eq N _ _ _ _ _) ?_
    refine EvP.ite (fun c1 => ?_) (fun c1 => ?_)
    · refine EvP.andK (next_s (b := (b + t)) h4 (by omega) (by omega) (by omega)) ?_
      intro u1 q2
      obtain ⟨p3, p4, p5, p6, p7, -⟩ := q2
      omega
    · exact EvP.some ⟨(by (try dsimp only); omega), (by (try dsimp only); omega), h4, (by (try dsimp only); omega), (by (try dsimp only); omega), trivial⟩
  | succ d ih =>
    intro t n i p0_01 p0_11 p0_21 t0 t1 t2 t3 h0 h1 h2 h3 h4 h5 h6
    refine EvP.step (fun N => spec_l1Cur_wide.l0.eq N _ _ _ _ _) ?_
    refine EvP.ite (fun c1 => ?_) (fun c1 => ?_)
    · refine EvP.andK (next_s (b := (b + t)) h4 (by omega) (by omega) (by omega)) ?_
      intro u1 q2
      obtain ⟨p3, p4, p5, p6, p7, -⟩ := q2
      have f8 : (-9223372036854775808) ≤ (shlI .i64 n 8) ∧ (shlI .i64 n 8) ≤ 9223372036854775807 := shl_range .i64 n 8 (by decide)
      have f9 : (-9223372036854775808) ≤ (Go.bits .or .i64 (shlI .i64 n 8) u1.1.1) ∧ (Go.bits .or .i64 (shlI .i64 n 8) u1.1.1) ≤ 9223372036854775807 := bits_range .or .i64 (shlI .i64 n 8) u1.1.1 (by decide)
      have f10 := i64w (n := (i + 1)) (by omega) (by omega)
      exact ih (t + 1) _ _ _ _ _ (by omega) (by omega) (by omega) (by omega) (by omega) (by omega) (by omega) (by omega) p5 (by omega) (by omega)
    · exact EvP.some ⟨(by (try dsimp only); omega), (by (try dsimp only); omega), h4, (by (try dsimp only); omega), (by (try dsimp only); omega), trivial⟩

theorem spec_l1Cur_wide_s {b : Int} {p0_0 : (List Int)} {p0_1 : Int} {p0_2 : Int} (h0 : ∀ y ∈ p0_0, 0 ≤ y ∧ y ≤ 255) (h1 : 0 ≤ p0_1) (h2 : p0_1 ≤ b) (hb : b ≤ 4611686018426999992) : EvP (fun N => spec_l1Cur_wide N p0_0 p0_1 p0_2) (fun r => (-9223372036854775808) ≤ r.1.1 ∧ r.1.1 ≤ 9223372036854775807 ∧ (∀ y ∈ r.2.1.1, 0 ≤ y ∧ y ≤ 255) ∧ 0 ≤ r.2.1.2.1 ∧ r.2.1.2.1 ≤ (b + 8) ∧ True) := by
  refine EvP.of (fun N => spec_l1Cur_wide.eq N _ _ _) ?_
  refine EvP.andK (spec_l1Cur_wide_l0_s (b := b) (by omega) 8 0 _ _ _ _ _ (by omega) (by omega) (by omega) (by omega) (by omega) (by omega) (by omega) (by omega) h0 (by omega) (by omega)) ?_
  intro l2 q1
  obtain ⟨p2, p3, p4, p5, p6, -⟩ := q1
  exact EvP.some ⟨(by (try dsimp only); omega), (by (try dsimp only); omega), p4, (by (try dsimp only); omega), (by (try dsimp only); omega), trivial⟩

theorem spec_l1Cur_num_s {b : Int} {p0_0 : (List Int)} {p0_1 : Int} {p0_2 : Int} (h0 : ∀ y ∈ p0_0, 0 ≤ y ∧ y ≤ 255) (h1 : 0 ≤ p0_1) (h2 : p0_1 ≤ b) (hb : b ≤ 4611686018426999990) : EvP (fun N => spec_l1Cur_num N p0_0 p0_1 p0_2) (fun r => 0 ≤ r.1.1 ∧ r.1.1 ≤ 4611686018427387903 ∧ (∀ y ∈ r.2.1.1, 0 ≤ y ∧ y ≤ 255) ∧ 0 ≤ r.2.1.2.1 ∧ r.2.1.2.1 ≤ (b + 10) ∧ True) := by
  refine EvP.of (fun N => spec_l1Cur_num.eq N _ _ _) ?_
  refine EvP.andK (pick_s (b := b) (n := 8) (m := 7) h0 (by omega) (by omega) (by omega) (by omega) (by omega)) ?_
  intro u1 q1
  obtain ⟨q2, q3⟩ := q1
  obtain ⟨p4, p5, p6, p7⟩ := q2
  obtain ⟨p8, p9, p10, -⟩ := q3
  refine EvP.ite (fun c11 => ?_) (fun c11 => ?_)
  · have f12 : ([0, 63, 64, 16383, 16384, 1073741823, 1073741824, 4611686018427387903, 4611686018427387902] : List Int).length = 9 := rfl
    refine EvP.andK (among_s (b := (b + 2)) (P := fun y => 0 ≤ y ∧ y ≤ 4611686018427387903) (all_cons ⟨(by (try dsimp only); omega), (by (try dsimp only); omega)⟩ (all_cons ⟨(by (try dsimp only); omega), (by (try dsimp only); omega)⟩ (all_cons ⟨(by (try dsimp only); omega), (by (try dsimp only); omega)⟩ (all_cons ⟨(by (try dsimp only); omega), (by (try dsimp only); omega)⟩ (all_cons ⟨(by (try dsimp only); omega), (by (try dsimp only); omega)⟩ (all_cons ⟨(by (try dsimp only); omega), (by (try dsimp only); omega)⟩ (all_cons ⟨(by (try dsimp only); omega), (by (try dsimp only); omega)⟩ (all_cons ⟨(by (try dsimp only); omega), (by (try dsimp only); omega)⟩ (all_cons ⟨(by (try dsimp only); omega), (by (try dsimp only); omega)⟩ all_nil))))))))) (by decide) p8 (by omega) (by omega) (by omega)) ?_
    intro u2 q13
    obtain ⟨q14, q15⟩ := q13
    obtain ⟨p16, p17⟩ := q14
    obtain ⟨p18, p19, p20, -⟩ := q15
    exact EvP.some ⟨(by (try dsimp only); omega), (by (try dsimp only); omega), p18, (by (try dsimp only); omega), (by (try dsimp only); omega), trivial⟩
  · refine EvP.ite (fun c21 => ?_) (fun c21 => ?_)
    · refine EvP.andK (spec_l1Cur_wide_s (b := (b + 2)) p8 (by omega) (by omega) (by omega)) ?_
      intro u3 q22
      obtain ⟨p23, p24, p25, p26, p27, -⟩ := q22
      have f28 := and1_f .i64 u3.1.1 4611686018427387903 (by decide) (by decide) (by decide)
      exact EvP.some ⟨(by (try dsimp only); omega), (by (try dsimp only); omega), p25, (by (try dsimp only); omega), (by (try dsimp only); omega), trivial⟩
    · refine EvP.andK (pick_s (b := (b + 2)) (n := 300) (m := 299) p8 (by omega) (by omega) (by omega) (by omega) (by omega)) ?_
      intro u4 q29
      obtain ⟨q30, q31⟩ := q29
      obtain ⟨p32, p33, p34, p35⟩ := q30
      obtain ⟨p36, p37, p38, -⟩ := q31
      exact EvP.some ⟨(by (try dsimp only); omega), (by (try dsimp only); omega), p36, (by (try dsimp only); omega), (by (try dsimp only); omega), trivial⟩

theorem spec_l1Cur_ranges_l0_s {b : Int} (hb : b ≤ 4611686018426999982) (d : Nat) : ∀ (t : Int) (to : Int) (n : Int) (p0_01 : (List Int)) (p0_11 : Int) (p0_21 : Int) (p1 : (List (Int × Int))), 0 ≤ t → t ≤ 4 → t + (n - 0) ≤ 4 → n - 0 ≤ (d : Int) → (-9) ≤ n → n ≤ 4 → (∀ y ∈ p0_01, 0 ≤ y ∧ y ≤ 255) → 0 ≤ p0_11 → p0_11 ≤ (b + 4 * t) → (p1.length : Int) ≤ t → EvP (fun N => spec_l1Cur_ranges.l0 N to n p0_01 p0_11 p0_21 p1) (fun r => (∀ y ∈ r.2.1.1, 0 ≤ y ∧ y ≤ 255) ∧ 0 ≤ r.2.1.2.1 ∧ r.2.1.2.1 ≤ (b + 16) ∧ (r.2.2.1.length : Int) ≤ 4 ∧ True) := by
  induction d with
  | zero =>
    intro t to n p0_01 p0_11 p0_21 p1 t0 t1 t2 t3 h0 h1 h2 h3 h4 h5
    refine EvP.step (fun N => spec_l1Cur_ranges.l0.eq N _ _ _ _ _ _) ?_
    refine EvP.ite (fun c1 => ?_) (fun c1 => ?_)
    · refine EvP.andK (pick_s (b := (b + 4 * t)) (n := 9) (m := 8) h2 (by omega) (by omega) (by omega) (by omega) (by omega)) ?_
      intro u6 q2
      obtain ⟨q3, q4⟩ := q2
      obtain ⟨p5, p6, p7, p8⟩ := q3
      obtain ⟨p9, p10, p11, -⟩ := q4
      refine EvP.chk (decide_eq_true (by unfold most; omega)) ?_
      refine EvP.andK (pick_s (b := (b + 4 * t + 2)) (n := 9) (m := 8) p9 (by omega) (by omega) (by omega) (by omega) (by omega)) ?_
      intro u7 q12
      obtain ⟨q13, q14⟩ := q12
      obtain ⟨p15, p16, p17, p18⟩ := q13
      obtain ⟨p19, p20, p21, -⟩ := q14
      omega
    · exact EvP.some ⟨h2, (by (try dsimp only); omega), (by (try dsimp only); omega), (by (try dsimp only); omega), trivial⟩
  | succ d ih =>
    intro t to n p0_01 p0_11 p0_21 p1 t0 t1 t2 t3 h0 h1 h2 h3 h4 h5
    refine EvP.step (fun N => spec_l1Cur_ranges.l0.eq N _ _ _ _ _ _) ?_
    refine EvP.ite (fun c1 => ?_) (fun c1 => ?_)
    · refine EvP.andK (pick_s (b := (b + 4 * t)) (n := 9) (m := 8) h2 (by omega) (by omega) (by omega) (by omega) (by omega)) ?_
      intro u6 q2
      obtain ⟨q3, q4⟩ := q2
      obtain ⟨p5, p6, p7, p8⟩ := q3
      obtain ⟨p9, p10, p11, -⟩ := q4
      refine EvP.chk (decide_eq_true (by unfold most; omega)) ?_
      refine EvP.andK (pick_s (b := (b + 4 * t + 2)) (n := 9) (m := 8) p9 (by omega) (by omega) (by omega) (by omega) (by omega)) ?_
      intro u7 q12
      obtain ⟨q13, q14⟩ := q12
      obtain ⟨p15, p16, p17, p18⟩ := q13
      obtain ⟨p19, p20, p21, -⟩ := q14
      have f22 := i64_range ((to - u6.1.1))
      have f23 := i64_range (((IntKind.i64.wrap (to - u6.1.1)) - 2))
      have f24 := i64_range (((IntKind.i64.wrap ((IntKind.i64.wrap (to - u6.1.1)) - 2)) - u7.1.1))
      have f25 := i64w (n := (n - 1)) (by omega) (by omega)
      have f26 : ([((IntKind.i64.wrap (to - u6.1.1)), to)] : List (Int × Int)).length = 1 := rfl
      have f27 : (p1 ++ [((IntKind.i64.wrap (to - u6.1.1)), to)]).length = p1.length + [((IntKind.i64.wrap (to - u6.1.1)), to)].length := List.length_append
      exact ih (t + 1) _ _ _ _ _ _ (by omega) (by omega) (by omega) (by omega) (by omega) (by omega) p19 (by omega) (by omega) (by omega)
    · exact EvP.some ⟨h2, (by (try dsimp only); omega), (by (try dsimp only); omega), (by (try dsimp only); omega), trivial⟩

theorem spec_l1Cur_ranges_s {b : Int} {p0_0 : (List Int)} {p0_1 : Int} {p0_2 : Int} (h0 : ∀ y ∈ p0_0, 0 ≤ y ∧ y ≤ 255) (h1 : 0 ≤ p0_1) (h2 : p0_1 ≤ b) (hb : b ≤ 4611686018426999966) : EvP (fun N => spec_l1Cur_ranges N p0_0 p0_1 p0_2) (fun r => (∀ y ∈ r.2.1.1, 0 ≤ y ∧ y ≤ 255) ∧ 0 ≤ r.2.1.2.1 ∧ r.2.1.2.1 ≤ (b + 32) ∧ (r.2.2.1.length : Int) ≤ 4 ∧ True) := by
  refine EvP.of (fun N => spec_l1Cur_ranges.eq N _ _ _) ?_
  refine EvP.andK (pick_s (b := b) (n := 100) (m := 99) h0 (by omega) (by omega) (by omega) (by omega) (by omega)) ?_
  intro u1 q1
  obtain ⟨q2, q3⟩ := q1
  obtain ⟨p4, p5, p6, p7⟩ := q2
  obtain ⟨p8, p9, p10, -⟩ := q3
  refine EvP.andK (Q := fun r => 0 ≤ r.1.2.1 ∧ r.1.2.1 ≤ 4611686018427387903 ∧ (∀ y ∈ r.2.1.1, 0 ≤ y ∧ y ≤ 255) ∧ 0 ≤ r.2.1.2.1 ∧ r.2.1.2.1 ≤ (b + 14) ∧ True) ?_ ?_
  · refine EvP.andK (one_s (b := (b + 2)) p8 (by omega) (by omega) (by omega)) ?_
    intro u2 q11
    obtain ⟨p12, p13, p14, -⟩ := q11
    refine EvP.sel (fun c15 => ?_) (fun c15 => ?_)
    · refine EvP.andK (spec_l1Cur_num_s (b := (b + 4)) p12 (by omega) (by omega) (by omega)) ?_
      intro u3 q16
      obtain ⟨p17, p18, p19, p20, p21, -⟩ := q16
      exact EvP.some ⟨(by (try dsimp only); omega), (by (try dsimp only); omega), p19, (by (try dsimp only); omega), (by (try dsimp only); omega), trivial⟩
    · have f22 := i64w (n := (100 + u1.1.1)) (by omega) (by omega)
      exact EvP.some ⟨(by (try dsimp only); omega), (by (try dsimp only); omega), p12, (by (try dsimp only); omega), (by (try dsimp only); omega), trivial⟩
  · intro j4 q23
    obtain ⟨p24, p25, p26, p27, p28, -⟩ := q23
    refine EvP.andK (pick_s (b := (b + 14)) (n := 4) (m := 3) p26 (by omega) (by omega) (by omega) (by omega) (by omega)) ?_
    intro u5 q29
    obtain ⟨q30, q31⟩ := q29
    obtain ⟨p32, p33, p34, p35⟩ := q30
    obtain ⟨p36, p37, p38, -⟩ := q31
    have f39 := i64w (n := (1 + u5.1.1)) (by omega) (by omega)
    have f40 : ([] : List (Int × Int)).length = 0 := rfl
    refine EvP.andK (spec_l1Cur_ranges_l0_s (b := (b + 16)) (by omega) 4 0 _ _ _ _ _ _ (by omega) (by omega) (by omega) (by omega) (by omega) (by omega) p36 (by omega) (by omega) (by omega)) ?_
    intro l8 q41
    obtain ⟨p42, p43, p44, p45, -⟩ := q41
    exact EvP.some ⟨p42, (by (try dsimp only); omega), (by (try dsimp only); omega), (by (try dsimp only); omega), trivial⟩

theorem spec_l1Cur_frame_s {b : Int} {p0_0 : (List Int)} {p0_1 : Int} {p0_2 : Int} (h0 : ∀ y ∈ p0_0, 0 ≤ y ∧ y ≤ 255) (h1 : 0 ≤ p0_1) (h2 : p0_1 ≤ b) (hb : b ≤ 4611686018423999972) : EvP (fun N => spec_l1Cur_frame N p0_0 p0_1 p0_2) (fun r => 0 ≤ r.1.1.1 ∧ r.1.1.1 ≤ 59 ∧ (-1) ≤ r.1.1.2.1 ∧ r.1.1.2.1 ≤ 4611686018427387904 ∧ 0 ≤ r.1.1.2.2.1 ∧ r.1.1.2.2.1 ≤ 4611686018427387903 ∧ 0 ≤ r.1.1.2.2.2.1 ∧ r.1.1.2.2.2.1 ≤ 199 ∧ (r.1.1.2.2.2.2.2.1.size : Int) ≤ 209 ∧ (∀ y ∈ r.2.1.1, 0 ≤ y ∧ y ≤ 255) ∧ 0 ≤ r.2.1.2.1 ∧ r.2.1.2.1 ≤ (b + 464) ∧ (r.2.2.1.length : Int) ≤ 4 ∧ True) := by
  refine EvP.of (fun N => spec_l1Cur_frame.eq N _ _ _) ?_
  have f1 : ([0, 1, 2, 4, 5, 6, 7, 8, 8, 16, 17, 24, 26, 27, 28, 48] : List Int).length = 16 := rfl
  refine EvP.andK (among_s (b := b) (P := fun y => 0 ≤ y ∧ y ≤ 48) (all_cons ⟨(by (try dsimp only); omega), (by (try dsimp only); omega)⟩ (all_cons ⟨(by (try dsimp only); omega), (by (try dsimp only); omega)⟩ (all_cons ⟨(by (try dsimp only); omega), (by (try dsimp only); omega)⟩ (all_cons ⟨(by (try dsimp only); omega), (by (try dsimp only); omega)⟩ (all_cons ⟨(by (try dsimp only); omega), (by (try dsimp only); omega)⟩ (all_cons ⟨(by (try dsimp only); omega), (by (try dsimp only); omega)⟩ (all_cons ⟨(by (try dsimp only); omega), (by (try dsimp only); omega)⟩ (all_cons ⟨(by (try dsimp only); omega), (by (try dsimp only); omega)⟩ (all_cons ⟨(by (try dsimp only); omega), (by (try dsimp only); omega)⟩ (all_cons ⟨(by (try dsimp only); omega), (by (try dsimp only); omega)⟩ (all_cons ⟨(by (try dsimp only); omega), (by (try dsimp only); omega)⟩ (all_cons ⟨(by (try dsimp only); omega), (by (try dsimp only); omega)⟩ (all_cons ⟨(by (try dsimp only); omega), (by (try dsimp only); omega)⟩ (all_cons ⟨(by (try dsimp only); omega), (by (try dsimp only); omega)⟩ (all_cons ⟨(by (try dsimp only); omega), (by (try dsimp only); omega)⟩ (all_cons ⟨(by (try dsimp only); omega), (by (try dsimp only); omega)⟩ all_nil)))))))))))))))) (by decide) h0 (by omega) (by omega) (by omega)) ?_
  intro u1 q2
  obtain ⟨q3, q4⟩ := q2
  obtain ⟨p5, p6⟩ := q3
  obtain ⟨p7, p8, p9, -⟩ := q4
  refine EvP.andK (spec_l1Shape_s (by omega) (by omega)) ?_
  intro u2 q10
  obtain ⟨p11, p12, p13, p14, p15, p16, -⟩ := q10
  refine EvP.andK (Q := fun r => (∀ y ∈ r.2.1.1, 0 ≤ y ∧ y ≤ 255) ∧ 0 ≤ r.2.1.2.1 ∧ r.2.1.2.1 ≤ (b + 12) ∧ 0 ≤ r.2.2.1.1 ∧ r.2.2.1.1 ≤ 0 ∧ 0 ≤ r.2.2.1.2.1 ∧ r.2.2.1.2.1 ≤ 0 ∧ 0 ≤ r.2.2.1.2.2.1 ∧ r.2.2.1.2.2.1 ≤ 0 ∧ 0 ≤ r.2.2.1.2.2.2.1 ∧ r.2.2.1.2.2.2.1 ≤ 0 ∧ (r.2.2.1.2.2.2.2.2.1.size : Int) ≤ 0 ∧ 0 ≤ r.2.2.2.1.1 ∧ r.2.2.2.1.1 ≤ 48 ∧ 0 ≤ r.2.2.2.1.2.1 ∧ r.2.2.2.1.2.1 ≤ 4611686018427387903 ∧ 0 ≤ r.2.2.2.1.2.2.1 ∧ r.2.2.2.1.2.2.1 ≤ 0 ∧ 0 ≤ r.2.2.2.1.2.2.2.1 ∧ r.2.2.2.1.2.2.2.1 ≤ 0 ∧ (r.2.2.2.1.2.2.2.2.2.1.size : Int) ≤ 0 ∧ True) ?_ ?_
  · refine EvP.ite (fun c17 => ?_) (fun c17 => ?_)
    · refine EvP.andK (spec_l1Cur_num_s (b := (b + 2)) p7 (by omega) (by omega) (by omega)) ?_
      intro u3 q18
      obtain ⟨p19, p20, p21, p22, p23, -⟩ := q18
      have f24 : (⟨#[]⟩ : ByteArray).size = 0 := rfl
      exact EvP.some ⟨p21, (by (try dsimp only); omega), (by (try dsimp only); omega), (by (try dsimp only); omega), (by (try dsimp only); omega), (by (try dsimp only); omega), (by (try dsimp only); omega), (by (try dsimp only); omega), (by (try dsimp only); omega), (by (try dsimp only); omega), (by (try dsimp only); omega), (by (try dsimp only); omega), (by (try dsimp only); omega), (by (try dsimp only); omega), (by (try dsimp only); omega), (by (try dsimp only); omega), (by (try dsimp only); omega), (by (try dsimp only); omega), (by (try dsimp only); omega), (by (try dsimp only); omega), (by (try dsimp only); omega), trivial⟩
    · have f25 : (⟨#[]⟩ : ByteArray).size = 0 := rfl
      exact EvP.some ⟨p7, (by (try dsimp only); omega), (by (try dsimp only); omega), (by (try dsimp only); omega), (by (try dsimp only); omega), (by (try dsimp only); omega), (by (try dsimp only); omega), (by (try dsimp only); omega), (by (try dsimp only); omega), (by (try dsimp only); omega), (by (try dsimp only); omega), (by (try dsimp only); omega), (by (try dsimp only); omega), (by (try dsimp only); omega), (by (try dsimp only); omega), (by (try dsimp only); omega), (by (try dsimp only); omega), (by (try dsimp only); omega), (by (try dsimp only); omega), (by (try dsimp only); omega), (by (try dsimp only); omega), trivial⟩
  · intro j4 q26
    obtain ⟨p27, p28, p29, p30, p31, p32, p33, p34, p35, p36, p37, p38, p39, p40, p41, p42, p43, p44, p45, p46, p47, -⟩ := q26
    refine EvP.andK (Q := fun r => (∀ y ∈ r.2.1.1, 0 ≤ y ∧ y ≤ 255) ∧ 0 ≤ r.2.1.2.1 ∧ r.2.1.2.1 ≤ (b + 22) ∧ 0 ≤ r.2.2.1.1 ∧ r.2.2.1.1 ≤ 0 ∧ 0 ≤ r.2.2.1.2.1 ∧ r.2.2.1.2.1 ≤ 0 ∧ 0 ≤ r.2.2.1.2.2.1 ∧ r.2.2.1.2.2.1 ≤ 0 ∧ 0 ≤ r.2.2.1.2.2.2.1 ∧ r.2.2.1.2.2.2.1 ≤ 0 ∧ (r.2.2.1.2.2.2.2.2.1.size : Int) ≤ 0 ∧ 0 ≤ r.2.2.2.1.1 ∧ r.2.2.2.1.1 ≤ 48 ∧ 0 ≤ r.2.2.2.1.2.1 ∧ r.2.2.2.1.2.1 ≤ 4611686018427387903 ∧ 0 ≤ r.2.2.2.1.2.2.1 ∧ r.2.2.2.1.2.2.1 ≤ 4611686018427387903 ∧ 0 ≤ r.2.2.2.1.2.2.2.1 ∧ r.2.2.2.1.2.2.2.1 ≤ 0 ∧ (r.2.2.2.1.2.2.2.2.2.1.size : Int) ≤ 0 ∧ True) ?_ ?_
    · refine EvP.ite (fun c48 => ?_) (fun c48 => ?_)
      · refine EvP.andK (spec_l1Cur_num_s (b := (b + 12)) p27 (by omega) (by omega) (by omega)) ?_
        intro u5 q49
        obtain ⟨p50, p51, p52, p53, p54, -⟩ := q49
        exact EvP.some ⟨p52, (by (try dsimp only); omega), (by (try dsimp only); omega), (by (try dsimp only); omega), (by (try dsimp only); omega), (by (try dsimp only); omega), (by (try dsimp only); omega), (by (try dsimp only); omega), (by (try dsimp only); omega), (by (try dsimp only); omega), (by (try dsimp only); omega), (by (try dsimp only); omega), (by (try dsimp only); omega), (by (try dsimp only); omega), (by (try dsimp only); omega), (by (try dsimp only); omega), (by (try dsimp only); omega), (by (try dsimp only); omega), (by (try dsimp only); omega), (by (try dsimp only); omega), (by (try dsimp only); omega), trivial⟩
      · exact EvP.some ⟨p27, (by (try dsimp only); omega), (by (try dsimp only); omega), (by (try dsimp only); omega), (by (try dsimp only); omega), (by (try dsimp only); omega), (by (try dsimp only); omega), (by (try dsimp only); omega), (by (try dsimp only); omega), (by (try dsimp only); omega), (by (try dsimp only); omega), (by (try dsimp only); omega), (by (try dsimp only); omega), (by (try dsimp only); omega), (by (try dsimp only); omega), (by (try dsimp only); omega), (by (try dsimp only); omega), (by (try dsimp only); omega), (by (try dsimp only); omega), (by (try dsimp only); omega), (by (try dsimp only); omega), trivial⟩
    · intro j6 q55
      obtain ⟨p56, p57, p58, p59, p60, p61, p62, p63, p64, p65, p66, p67, p68, p69, p70, p71, p72, p73, p74, p75, p76, -⟩ := q55
      refine EvP.andK (Q := fun r => (∀ y ∈ r.2.1.1, 0 ≤ y ∧ y ≤ 255) ∧ 0 ≤ r.2.1.2.1 ∧ r.2.1.2.1 ≤ (b + 24) ∧ 0 ≤ r.2.2.1.1 ∧ r.2.2.1.1 ≤ 0 ∧ 0 ≤ r.2.2.1.2.1 ∧ r.2.2.1.2.1 ≤ 0 ∧ 0 ≤ r.2.2.1.2.2.1 ∧ r.2.2.1.2.2.1 ≤ 0 ∧ 0 ≤ r.2.2.1.2.2.2.1 ∧ r.2.2.1.2.2.2.1 ≤ 0 ∧ (r.2.2.1.2.2.2.2.2.1.size : Int) ≤ 0 ∧ 0 ≤ r.2.2.2.1.1 ∧ r.2.2.2.1.1 ≤ 48 ∧ 0 ≤ r.2.2.2.1.2.1 ∧ r.2.2.2.1.2.1 ≤ 4611686018427387903 ∧ 0 ≤ r.2.2.2.1.2.2.1 ∧ r.2.2.2.1.2.2.1 ≤ 4611686018427387903 ∧ 0 ≤ r.2.2.2.1.2.2.2.1 ∧ r.2.2.2.1.2.2.2.1 ≤ 199 ∧ (r.2.2.2.1.2.2.2.2.2.1.size : Int) ≤ 0 ∧ True) ?_ ?_
      · refine EvP.ite (fun c77 => ?_) (fun c77 => ?_)
        · refine EvP.andK (pick_s (b := (b + 22)) (n := 200) (m := 199) p56 (by omega) (by omega) (by omega) (by omega) (by omega)) ?_
          intro u7 q78
          obtain ⟨q79, q80⟩ := q78
          obtain ⟨p81, p82, p83, p84⟩ := q79
          obtain ⟨p85, p86, p87, -⟩ := q80
          exact EvP.some ⟨p85, (by (try dsimp only); omega), (by (try dsimp only); omega), (by (try dsimp only); omega), (by (try dsimp only); omega), (by (try dsimp only); omega), (by (try dsimp only); omega), (by (try dsimp only); omega), (by (try dsimp only); omega), (by (try dsimp only); omega), (by (try dsimp only); omega), (by (try dsimp only); omega), (by (try dsimp only); omega), (by (try dsimp only); omega), (by (try dsimp only); omega), (by (try dsimp only); omega), (by (try dsimp only); omega), (by (try dsimp only); omega), (by (try dsimp only); omega), (by (try dsimp only); omega), (by (try dsimp only); omega), trivial⟩
        · exact EvP.some ⟨p56, (by (try dsimp only); omega), (by (try dsimp only); omega), (by (try dsimp only); omega), (by (try dsimp only); omega), (by (try dsimp only); omega), (by (try dsimp only); omega), (by (try dsimp only); omega), (by (try dsimp only); omega), (by (try dsimp only); omega), (by (try dsimp only); omega), (by (try dsimp only); omega), (by (try dsimp only); omega), (by (try dsimp only); omega), (by (try dsimp only); omega), (by (try dsimp only); omega), (by (try dsimp only); omega), (by (try dsimp only); omega), (by (try dsimp only); omega), (by (try dsimp only); omega), (by (try dsimp only); omega), trivial⟩
      · intro j8 q88
        obtain ⟨p89, p90, p91, p92, p93, p94, p95, p96, p97, p98, p99, p100, p101, p102, p103, p104, p105, p106, p107, p108, p109, -⟩ := q88
        refine EvP.andK (Q := fun r => (∀ y ∈ r.2.1.1, 0 ≤ y ∧ y ≤ 255) ∧ 0 ≤ r.2.1.2.1 ∧ r.2.1.2.1 ≤ (b + 428) ∧ 0 ≤ r.2.2.1.1 ∧ r.2.2.1.1 ≤ 0 ∧ 0 ≤ r.2.2.1.2.1 ∧ r.2.2.1.2.1 ≤ 0 ∧ 0 ≤ r.2.2.1.2.2.1 ∧ r.2.2.1.2.2.1 ≤ 0 ∧ 0 ≤ r.2.2.1.2.2.2.1 ∧ r.2.2.1.2.2.2.1 ≤ 0 ∧ (r.2.2.1.2.2.2.2.2.1.size : Int) ≤ 0 ∧ 0 ≤ r.2.2.2.1.1 ∧ r.2.2.2.1.1 ≤ 48 ∧ 0 ≤ r.2.2.2.1.2.1 ∧ r.2.2.2.1.2.1 ≤ 4611686018427387903 ∧ 0 ≤ r.2.2.2.1.2.2.1 ∧ r.2.2.2.1.2.2.1 ≤ 4611686018427387903 ∧ 0 ≤ r.2.2.2.1.2.2.2.1 ∧ r.2.2.2.1.2.2.2.1 ≤ 199 ∧ (r.2.2.2.1.2.2.2.2.2.1.size : Int) ≤ 200 ∧ True) ?_ ?_
        · refine EvP.ite (fun c110 => ?_) (fun c110 => ?_)
          · refine EvP.andK (pick_s (b := (b + 24)) (n := 6) (m := 5) p89 (by omega) (by omega) (by omega) (by omega) (by omega)) ?_
            intro u9 q111
            obtain ⟨q112, q113⟩ := q111
            obtain ⟨p114, p115, p116, p117⟩ := q112
            obtain ⟨p118, p119, p120, -⟩ := q113
            refine EvP.andK (Q := fun r => 0 ≤ r.1.2.2.2.1 ∧ r.1.2.2.2.1 ≤ 200 ∧ (∀ y ∈ r.2.1.1, 0 ≤ y ∧ y ≤ 255) ∧ 0 ≤ r.2.1.2.1 ∧ r.2.1.2.1 ≤ (b + 28) ∧ 0 ≤ r.2.2.1.1 ∧ r.2.2.1.1 ≤ 0 ∧ 0 ≤ r.2.2.1.2.1 ∧ r.2.2.1.2.1 ≤ 0 ∧ 0 ≤ r.2.2.1.2.2.1 ∧ r.2.2.1.2.2.1 ≤ 0 ∧ 0 ≤ r.2.2.1.2.2.2.1 ∧ r.2.2.1.2.2.2.1 ≤ 0 ∧ (r.2.2.1.2.2.2.2.2.1.size : Int) ≤ 0 ∧ 0 ≤ r.2.2.2.1.1 ∧ r.2.2.2.1.1 ≤ 48 ∧ 0 ≤ r.2.2.2.1.2.1 ∧ r.2.2.2.1.2.1 ≤ 4611686018427387903 ∧ 0 ≤ r.2.2.2.1.2.2.1 ∧ r.2.2.2.1.2.2.1 ≤ 4611686018427387903 ∧ 0 ≤ r.2.2.2.1.2.2.2.1 ∧ r.2.2.2.1.2.2.2.1 ≤ 199 ∧ (r.2.2.2.1.2.2.2.2.2.1.size : Int) ≤ 0 ∧ True) ?_ ?_
            · refine EvP.andK (Q := fun r => (∀ y ∈ r.2.1.1, 0 ≤ y ∧ y ≤ 255) ∧ 0 ≤ r.2.1.2.1 ∧ r.2.1.2.1 ≤ (b + 28) ∧ 0 ≤ r.2.2.1.1 ∧ r.2.2.1.1 ≤ 0 ∧ 0 ≤ r.2.2.1.2.1 ∧ r.2.2.1.2.1 ≤ 0 ∧ 0 ≤ r.2.2.1.2.2.1 ∧ r.2.2.1.2.2.1 ≤ 0 ∧ 0 ≤ r.2.2.1.2.2.2.1 ∧ r.2.2.1.2.2.2.1 ≤ 0 ∧ (r.2.2.1.2.2.2.2.2.1.size : Int) ≤ 0 ∧ 0 ≤ r.2.2.2.1.1 ∧ r.2.2.2.1.1 ≤ 48 ∧ 0 ≤ r.2.2.2.1.2.1 ∧ r.2.2.2.1.2.1 ≤ 4611686018427387903 ∧ 0 ≤ r.2.2.2.1.2.2.1 ∧ r.2.2.2.1.2.2.1 ≤ 4611686018427387903 ∧ 0 ≤ r.2.2.2.1.2.2.2.1 ∧ r.2.2.2.1.2.2.2.1 ≤ 199 ∧ (r.2.2.2.1.2.2.2.2.2.1.size : Int) ≤ 0 ∧ True) ?_ ?_
              · have f121 := i64w (n := (u2.1.2.1 + u9.1.1)) (by omega) (by omega)
                refine EvP.ite (fun c122 => ?_) (fun c122 => ?_)
                · exact EvP.some ⟨p118, (by (try dsimp only); omega), (by (try dsimp only); omega), (by (try dsimp only); omega), (by (try dsimp only); omega), (by (try dsimp only); omega), (by (try dsimp only); omega), (by (try dsimp only); omega), (by (try dsimp only); omega), (by (try dsimp only); omega), (by (try dsimp only); omega), (by (try dsimp only); omega), (by (try dsimp only); omega), (by (try dsimp only); omega), (by (try dsimp only); omega), (by (try dsimp only); omega), (by (try dsimp only); omega), (by (try dsimp only); omega), (by (try dsimp only); omega), (by (try dsimp only); omega), (by (try dsimp only); omega), trivial⟩
                · refine EvP.andK (one_s (b := (b + 26)) p118 (by omega) (by omega) (by omega)) ?_
                  intro u10 q123
                  obtain ⟨p124, p125, p126, -⟩ := q123
                  exact EvP.some ⟨p124, (by (try dsimp only); omega), (by (try dsimp only); omega), (by (try dsimp only); omega), (by (try dsimp only); omega), (by (try dsimp only); omega), (by (try dsimp only); omega), (by (try dsimp only); omega), (by (try dsimp only); omega), (by (try dsimp only); omega), (by (try dsimp only); omega), (by (try dsimp only); omega), (by (try dsimp only); omega), (by (try dsimp only); omega), (by (try dsimp only); omega), (by (try dsimp only); omega), (by (try dsimp only); omega), (by (try dsimp only); omega), (by (try dsimp only); omega), (by (try dsimp only); omega), (by (try dsimp only); omega), trivial⟩
              · intro j11 q127
                obtain ⟨p128, p129, p130, p131, p132, p133, p134, p135, p136, p137, p138, p139, p140, p141, p142, p143, p144, p145, p146, p147, p148, -⟩ := q127
                refine EvP.sel (fun c149 => ?_) (fun c149 => ?_)
                · exact EvP.some ⟨(by (try dsimp only); omega), (by (try dsimp only); omega), p128, (by (try dsimp only); omega), (by (try dsimp only); omega), (by (try dsimp only); omega), (by (try dsimp only); omega), (by (try dsimp only); omega), (by (try dsimp only); omega), (by (try dsimp only); omega), (by (try dsimp only); omega), (by (try dsimp only); omega), (by (try dsimp only); omega), (by (try dsimp only); omega), (by (try dsimp only); omega), (by (try dsimp only); omega), (by (try dsimp only); omega), (by (try dsimp only); omega), (by (try dsimp only); omega), (by (try dsimp only); omega), (by (try dsimp only); omega), (by (try dsimp only); omega), (by (try dsimp only); omega), trivial⟩
                · have f150 := i64w (n := (u2.1.2.1 + u9.1.1)) (by omega) (by omega)
                  exact EvP.some ⟨(by (try dsimp only); omega), (by (try dsimp only); omega), p128, (by (try dsimp only); omega), (by (try dsimp only); omega), (by (try dsimp only); omega), (by (try dsimp only); omega), (by (try dsimp only); omega), (by (try dsimp only); omega), (by (try dsimp only); omega), (by (try dsimp only); omega), (by (try dsimp only); omega), (by (try dsimp only); omega), (by (try dsimp only); omega), (by (try dsimp only); omega), (by (try dsimp only); omega), (by (try dsimp only); omega), (by (try dsimp only); omega), (by (try dsimp only); omega), (by (try dsimp only); omega), (by (try dsimp only); omega), (by (try dsimp only); omega), (by (try dsimp only); omega), trivial⟩
            · intro j12 q151
              obtain ⟨p152, p153, p154, p155, p156, p157, p158, p159, p160, p161, p162, p163, p164, p165, p166, p167, p168, p169, p170, p171, p172, p173, p174, -⟩ := q151
              refine EvP.andK (sized_s (b := (b + 28)) (n := j12.1.2.2.2.1) (m := 200) p154 (by omega) (by omega) (by decide) (by omega) (by omega) (by omega)) ?_
              intro u13 q175
              obtain ⟨p176, p177, p178, p179, p180, -⟩ := q175
              have f181 := strL_size u13.2.2.1
              exact EvP.some ⟨p176, (by (try dsimp only); omega), (by (try dsimp only); omega), (by (try dsimp only); omega), (by (try dsimp only); omega), (by (try dsimp only); omega), (by (try dsimp only); omega), (by (try dsimp only); omega), (by (try dsimp only); omega), (by (try dsimp only); omega), (by (try dsimp only); omega), (by (try dsimp only); omega), (by (try dsimp only); omega), (by (try dsimp only); omega), (by (try dsimp only); omega), (by (try dsimp only); omega), (by (try dsimp only); omega), (by (try dsimp only); omega), (by (try dsimp only); omega), (by (try dsimp only); omega), (by (try dsimp only); omega), trivial⟩
          · exact EvP.some ⟨p89, (by (try dsimp only); omega), (by (try dsimp only); omega), (by (try dsimp only); omega), (by (try dsimp only); omega), (by (try dsimp only); omega), (by (try dsimp only); omega), (by (try dsimp only); omega), (by (try dsimp only); omega), (by (try dsimp only); omega), (by (try dsimp only); omega), (by (try dsimp only); omega), (by (try dsimp only); omega), (by (try dsimp only); omega), (by (try dsimp only); omega), (by (try dsimp only); omega), (by (try dsimp only); omega), (by (try dsimp only); omega), (by (try dsimp only); omega), (by (try dsimp only); omega), (by (try dsimp only); omega), trivial⟩
        · intro j14 q182
          obtain ⟨p183, p184, p185, p186, p187, p188, p189, p190, p191, p192, p193, p194, p195, p196, p197, p198, p199, p200, p201, p202, p203, -⟩ := q182
          refine EvP.andK (Q := fun r => (∀ y ∈ r.2.1.1, 0 ≤ y ∧ y ≤ 255) ∧ 0 ≤ r.2.1.2.1 ∧ r.2.1.2.1 ≤ (b + 460) ∧ 0 ≤ r.2.2.1.1 ∧ r.2.2.1.1 ≤ 0 ∧ 0 ≤ r.2.2.1.2.1 ∧ r.2.2.1.2.1 ≤ 0 ∧ 0 ≤ r.2.2.1.2.2.1 ∧ r.2.2.1.2.2.1 ≤ 0 ∧ 0 ≤ r.2.2.1.2.2.2.1 ∧ r.2.2.1.2.2.2.1 ≤ 0 ∧ (r.2.2.1.2.2.2.2.2.1.size : Int) ≤ 0 ∧ 0 ≤ r.2.2.2.1.1 ∧ r.2.2.2.1.1 ≤ 48 ∧ 0 ≤ r.2.2.2.1.2.1 ∧ r.2.2.2.1.2.1 ≤ 4611686018427387903 ∧ 0 ≤ r.2.2.2.1.2.2.1 ∧ r.2.2.2.1.2.2.1 ≤ 4611686018427387903 ∧ 0 ≤ r.2.2.2.1.2.2.2.1 ∧ r.2.2.2.1.2.2.2.1 ≤ 199 ∧ (r.2.2.2.1.2.2.2.2.2.1.size : Int) ≤ 200 ∧ (r.2.2.2.2.1.length : Int) ≤ 4 ∧ True) ?_ ?_
          · refine EvP.ite (fun c204 => ?_) (fun c204 => ?_)
            · refine EvP.andK (spec_l1Cur_ranges_s (b := (b + 428)) p183 (by omega) (by omega) (by omega)) ?_
              intro u15 q205
              obtain ⟨p206, p207, p208, p209, -⟩ := q205
              exact EvP.some ⟨p206, (by (try dsimp only); omega), (by (try dsimp only); omega), (by (try dsimp only); omega), (by (try dsimp only); omega), (by (try dsimp only); omega), (by (try dsimp only); omega), (by (try dsimp only); omega), (by (try dsimp only); omega), (by (try dsimp only); omega), (by (try dsimp only); omega), (by (try dsimp only); omega), (by (try dsimp only); omega), (by (try dsimp only); omega), (by (try dsimp only); omega), (by (try dsimp only); omega), (by (try dsimp only); omega), (by (try dsimp only); omega), (by (try dsimp only); omega), (by (try dsimp only); omega), (by (try dsimp only); omega), (by (try dsimp only); omega), trivial⟩
            · refine EvP.ite (fun c210 => ?_) (fun c210 => ?_)
              · refine EvP.andK (pick_s (b := (b + 428)) (n := 9) (m := 8) p183 (by omega) (by omega) (by omega) (by omega) (by omega)) ?_
                intro u16 q211
                obtain ⟨q212, q213⟩ := q211
                obtain ⟨p214, p215, p216, p217⟩ := q212
                obtain ⟨p218, p219, p220, -⟩ := q213
                have f221 : ([] : List (Int × Int)).length = 0 := rfl
                exact EvP.some ⟨p218, (by (try dsimp only); omega), (by (try dsimp only); omega), (by (try dsimp only); omega), (by (try dsimp only); omega), (by (try dsimp only); omega), (by (try dsimp only); omega), (by (try dsimp only); omega), (by (try dsimp only); omega), (by (try dsimp only); omega), (by (try dsimp only); omega), (by (try dsimp only); omega), (by (try dsimp only); omega), (by (try dsimp only); omega), (by (try dsimp only); omega), (by (try dsimp only); omega), (by (try dsimp only); omega), (by (try dsimp only); omega), (by (try dsimp only); omega), (by (try dsimp only); omega), (by (try dsimp only); omega), (by (try dsimp only); omega), trivial⟩
              · refine EvP.ite (fun c222 => ?_) (fun c222 => ?_)
                · refine EvP.andK (one_s (b := (b + 428)) p183 (by omega) (by omega) (by omega)) ?_
                  intro u17 q223
                  obtain ⟨p224, p225, p226, -⟩ := q223
                  refine EvP.andK (one_s (b := (b + 430)) p224 (by omega) (by omega) (by omega)) ?_
                  intro u18 q227
                  obtain ⟨p228, p229, p230, -⟩ := q227
                  refine EvP.sel (fun c231 => ?_) (fun c231 => ?_)
                  · have f232 : ([] : List (Int × Int)).length = 0 := rfl
                    exact EvP.some ⟨p228, (by (try dsimp only); omega), (by (try dsimp only); omega), (by (try dsimp only); omega), (by (try dsimp only); omega), (by (try dsimp only); omega), (by (try dsimp only); omega), (by (try dsimp only); omega), (by (try dsimp only); omega), (by (try dsimp only); omega), (by (try dsimp only); omega), (by (try dsimp only); omega), (by (try dsimp only); omega), (by (try dsimp only); omega), (by (try dsimp only); omega), (by (try dsimp only); omega), (by (try dsimp only); omega), (by (try dsimp only); omega), (by (try dsimp only); omega), (by (try dsimp only); omega), (by (try dsimp only); omega), (by (try dsimp only); omega), trivial⟩
                  · have f233 : ([] : List (Int × Int)).length = 0 := rfl
                    exact EvP.some ⟨p228, (by (try dsimp only); omega), (by (try dsimp only); omega), (by (try dsimp only); omega), (by (try dsimp only); omega), (by (try dsimp only); omega), (by (try dsimp only); omega), (by (try dsimp only); omega), (by (try dsimp only); omega), (by (try dsimp only); omega), (by (try dsimp only); omega), (by (try dsimp only); omega), (by (try dsimp only); omega), (by (try dsimp only); omega), (by (try dsimp only); omega), (by (try dsimp only); omega), (by (try dsimp only); omega), (by (try dsimp only); omega), (by (try dsimp only); omega), (by (try dsimp only); omega), (by (try dsimp only); omega), (by (try dsimp only); omega), trivial⟩
                · have f234 : ([] : List (Int × Int)).length = 0 := rfl
                  exact EvP.some ⟨p183, (by (try dsimp only); omega), (by (try dsimp only); omega), (by (try dsimp only); omega), (by (try dsimp only); omega), (by (try dsimp only); omega), (by (try dsimp only); omega), (by (try dsimp only); omega), (by (try dsimp only); omega), (by (try dsimp only); omega), (by (try dsimp only); omega), (by (try dsimp only); omega), (by (try dsimp only); omega), (by (try dsimp only); omega), (by (try dsimp only); omega), (by (try dsimp only); omega), (by (try dsimp only); omega), (by (try dsimp only); omega), (by (try dsimp only); omega), (by (try dsimp only); omega), (by (try dsimp only); omega), (by (try dsimp only); omega), trivial⟩
          · intro j19 q235
            obtain ⟨p236, p237, p238, p239, p240, p241, p242, p243, p244, p245, p246, p247, p248, p249, p250, p251, p252, p253, p254, p255, p256, p257, -⟩ := q235
            refine EvP.andK (pick_s (b := (b + 460)) (n := 60) (m := 59) p236 (by omega) (by omega) (by omega) (by omega) (by omega)) ?_
            intro u20 q258
            obtain ⟨q259, q260⟩ := q258
            obtain ⟨p261, p262, p263, p264⟩ := q259
            obtain ⟨p265, p266, p267, -⟩ := q260
            refine EvP.ite (fun c268 => ?_) (fun c268 => ?_)
            · have f269 : ([(-1), 4611686018427387904] : List Int).length = 2 := rfl
              refine EvP.andK (among_s (b := (b + 462)) (P := fun y => (-1) ≤ y ∧ y ≤ 4611686018427387904) (all_cons ⟨(by (try dsimp only); omega), (by (try dsimp only); omega)⟩ (all_cons ⟨(by (try dsimp only); omega), (by (try dsimp only); omega)⟩ all_nil)) (by decide) p265 (by omega) (by omega) (by omega)) ?_
              intro u21 q270
              obtain ⟨q271, q272⟩ := q270
              obtain ⟨p273, p274⟩ := q271
              obtain ⟨p275, p276, p277, -⟩ := q272
              exact EvP.some ⟨(by (try dsimp only); omega), (by (try dsimp only); omega), (by (try dsimp only); omega), (by (try dsimp only); omega), (by (try dsimp only); omega), (by (try dsimp only); omega), (by (try dsimp only); omega), (by (try dsimp only); omega), (by (try dsimp only); omega), p275, (by (try dsimp only); omega), (by (try dsimp only); omega), (by (try dsimp only); omega), trivial⟩
            · refine EvP.ite (fun c278 => ?_) (fun c278 => ?_)
              · refine EvP.chk (decide_eq_true (by omega)) ?_
                have f279 : (⟨#[120, 120, 120, 120, 120, 120, 120, 120, 120]⟩ : ByteArray).size = 9 := rfl
                have f280 : (j19.2.2.2.1.2.2.2.2.2.1 ++ (⟨#[120, 120, 120, 120, 120, 120, 120, 120, 120]⟩ : ByteArray)).size = j19.2.2.2.1.2.2.2.2.2.1.size + (⟨#[120, 120, 120, 120, 120, 120, 120, 120, 120]⟩ : ByteArray).size := ByteArray.size_append
                exact EvP.some ⟨(by (try dsimp only); omega), (by (try dsimp only); omega), (by (try dsimp only); omega), (by (try dsimp only); omega), (by (try dsimp only); omega), (by (try dsimp only); omega), (by (try dsimp only); omega), (by (try dsimp only); omega), (by (try dsimp only); omega), p265, (by (try dsimp only); omega), (by (try dsimp only); omega), (by (try dsimp only); omega), trivial⟩
              · refine EvP.ite (fun c281 => ?_) (fun c281 => ?_)
                · exact EvP.some ⟨(by (try dsimp only); omega), (by (try dsimp only); omega), (by (try dsimp only); omega), (by (try dsimp only); omega), (by (try dsimp only); omega), (by (try dsimp only); omega), (by (try dsimp only); omega), (by (try dsimp only); omega), (by (try dsimp only); omega), p265, (by (try dsimp only); omega), (by (try dsimp only); omega), (by (try dsimp only); omega), trivial⟩
                · refine EvP.ite (fun c282 => ?_) (fun c282 => ?_)
                  · refine EvP.andK (pick_s (b := (b + 462)) (n := 60) (m := 59) p265 (by omega) (by omega) (by omega) (by omega) (by omega)) ?_
                    intro u22 q283
                    obtain ⟨q284, q285⟩ := q283
                    obtain ⟨p286, p287, p288, p289⟩ := q284
                    obtain ⟨p290, p291, p292, -⟩ := q285
                    exact EvP.some ⟨(by (try dsimp only); omega), (by (try dsimp only); omega), (by (try dsimp only); omega), (by (try dsimp only); omega), (by (try dsimp only); omega), (by (try dsimp only); omega), (by (try dsimp only); omega), (by (try dsimp only); omega), (by (try dsimp only); omega), p290, (by (try dsimp only); omega), (by (try dsimp only); omega), (by (try dsimp only); omega), trivial⟩
                  · exact EvP.some ⟨(by (try dsimp only); omega), (by (try dsimp only); omega), (by (try dsimp only); omega), (by (try dsimp only); omega), (by (try dsimp only); omega), (by (try dsimp only); omega), (by (try dsimp only); omega), (by (try dsimp only); omega), (by (try dsimp only); omega), p265, (by (try dsimp only); omega), (by (try dsimp only); omega), (by (try dsimp only); omega), trivial⟩

theorem spec_DrawGoodFrame_s {code : (List Int)} (h0 : ∀ y ∈ code, 0 ≤ y ∧ y ≤ 255) : EvP (fun N => spec_DrawGoodFrame N code) (fun r => 0 ≤ r.1.1.1 ∧ r.1.1.1 ≤ 59 ∧ (-1) ≤ r.1.1.2.1 ∧ r.1.1.2.1 ≤ 4611686018427387904 ∧ 0 ≤ r.1.1.2.2.1 ∧ r.1.1.2.2.1 ≤ 4611686018427387903 ∧ 0 ≤ r.1.1.2.2.2.1 ∧ r.1.1.2.2.2.1 ≤ 199 ∧ (r.1.1.2.2.2.2.2.1.size : Int) ≤ 209 ∧ (r.2.1.length : Int) ≤ 4 ∧ True) := by
  refine EvP.of (fun N => spec_DrawGoodFrame.eq N _) ?_
  refine EvP.andK (spec_l1Cur_frame_s (b := 0) h0 (by omega) (by omega) (by omega)) ?_
  intro u1 q1
  obtain ⟨p2, p3, p4, p5, p6, p7, p8, p9, p10, p11, p12, p13, p14, -⟩ := q1
  exact EvP.some ⟨(by (try dsimp only); omega), (by (try dsimp only); omega), (by (try dsimp only); omega), (by (try dsimp only); omega), (by (try dsimp only); omega), (by (try dsimp only); omega), (by (try dsimp only); omega), (by (try dsimp only); omega), (by (try dsimp only); omega), (by (try dsimp only); omega), trivial⟩

theorem spec_DrawFrameBytes_s {code : (List Int)} (h0 : ∀ y ∈ code, 0 ≤ y ∧ y ≤ 255) : EvP (fun N => spec_DrawFrameBytes N code) (fun r => 0 ≤ r.1.1.1 ∧ r.1.1.1 ≤ 59 ∧ (-1) ≤ r.1.1.2.1 ∧ r.1.1.2.1 ≤ 4611686018427387904 ∧ 0 ≤ r.1.1.2.2.1 ∧ r.1.1.2.2.1 ≤ 4611686018427387903 ∧ 0 ≤ r.1.1.2.2.2.1 ∧ r.1.1.2.2.2.1 ≤ 199 ∧ (r.1.1.2.2.2.2.2.1.size : Int) ≤ 209 ∧ (r.2.1.length : Int) ≤ 4 ∧ True) := by
  refine EvP.of (fun N => spec_DrawFrameBytes.eq N _) ?_
  refine EvP.andK (spec_DrawGoodFrame_s h0) ?_
  intro u1 q1
  obtain ⟨p2, p3, p4, p5, p6, p7, p8, p9, p10, p11, -⟩ := q1
  exact EvP.some ⟨(by (try dsimp only); omega), (by (try dsimp only); omega), (by (try dsimp only); omega), (by (try dsimp only); omega), (by (try dsimp only); omega), (by (try dsimp only); omega), (by (try dsimp only); omega), (by (try dsimp only); omega), (by (try dsimp only); omega), (by (try dsimp only); omega), trivial⟩

theorem spec_l1Cur_frame_2_s {b : Int} {p0_0 : (List Int)} {p0_1 : Int} {p0_2 : Int} (h0 : ∀ y ∈ p0_0, 0 ≤ y ∧ y ≤ 255) (h1 : 0 ≤ p0_1) (h2 : p0_1 ≤ b) (hb : b ≤ 4611686018423999972) : EvP (fun N => spec_l1Cur_frame_2 N p0_0 p0_1 p0_2) (fun r => 0 ≤ r.1.1.1 ∧ r.1.1.1 ≤ 59 ∧ (-1) ≤ r.1.1.2.1 ∧ r.1.1.2.1 ≤ 4611686018427387904 ∧ 0 ≤ r.1.1.2.2.1 ∧ r.1.1.2.2.1 ≤ 4611686018427387903 ∧ 0 ≤ r.1.1.2.2.2.1 ∧ r.1.1.2.2.2.1 ≤ 199 ∧ (r.1.1.2.2.2.2.2.1.size : Int) ≤ 209 ∧ (r.1.1.2.2.2.2.2.2.1.length : Int) ≤ 4 ∧ (∀ y ∈ r.2.1.1, 0 ≤ y ∧ y ≤ 255) ∧ 0 ≤ r.2.1.2.1 ∧ r.2.1.2.1 ≤ (b + 464) ∧ True) := by
  refine EvP.of (fun N => spec_l1Cur_frame_2.eq N _ _ _) ?_
  have f1 : ([0, 1, 2, 4, 5, 6, 7, 8, 8, 16, 17, 24, 26, 27, 28, 48] : List Int).length = 16 := rfl
  refine EvP.andK (among_s (b := b) (P := fun y => 0 ≤ y ∧ y ≤ 48) (all_cons ⟨(by (try dsimp only); omega), (by (try dsimp only); omega)⟩ (all_cons ⟨(by (try dsimp only); omega), (by (try dsimp only); omega)⟩ (all_cons ⟨(by (try dsimp only); omega), (by (try dsimp only); omega)⟩ (all_cons ⟨(by (try dsimp only); omega), (by (try dsimp only); omega)⟩ (all_cons ⟨(by (try dsimp only); omega), (by (try dsimp only); omega)⟩ (all_cons ⟨(by (try dsimp only); omega), (by (try dsimp only); omega)⟩ (all_cons ⟨(by (try dsimp only); omega), (by (try dsimp only); omega)⟩ (all_cons ⟨(by (try dsimp only); omega), (by (try dsimp only); omega)⟩ (all_cons ⟨(by (try dsimp only); omega), (by (try dsimp only); omega)⟩ (all_cons ⟨(by (try dsimp only); omega), (by (try dsimp only); omega)⟩ (all_cons ⟨(by (try dsimp only); omega), (by (try dsimp only); omega)⟩ (all_cons ⟨(by (try dsimp only); omega), (by (try dsimp only); omega)⟩ (all_cons ⟨(by (try dsimp only); omega), (by (try dsimp only); omega)⟩ (all_cons ⟨(by (try dsimp only); omega), (by (try dsimp only); omega)⟩ (all_cons ⟨(by (try dsimp only); omega), (by (try dsimp only); omega)⟩ (all_cons ⟨(by (try dsimp only); omega), (by (try dsimp only); omega)⟩ all_nil)))))))))))))))) (by decide) h0 (by omega) (by omega) (by omega)) ?_
  intro u1 q2
  obtain ⟨q3, q4⟩ := q2
  obtain ⟨p5, p6⟩ := q3
  obtain ⟨p7, p8, p9, -⟩ := q4
  refine EvP.andK (spec_l1Shape_s (by omega) (by omega)) ?_
  intro u2 q10
  obtain ⟨p11, p12, p13, p14, p15, p16, -⟩ := q10
  refine EvP.andK (Q := fun r => (∀ y ∈ r.2.1.1, 0 ≤ y ∧ y ≤ 255) ∧ 0 ≤ r.2.1.2.1 ∧ r.2.1.2.1 ≤ (b + 12) ∧ 0 ≤ r.2.2.1.1 ∧ r.2.2.1.1 ≤ 0 ∧ 0 ≤ r.2.2.1.2.1 ∧ r.2.2.1.2.1 ≤ 0 ∧ 0 ≤ r.2.2.1.2.2.1 ∧ r.2.2.1.2.2.1 ≤ 0 ∧ 0 ≤ r.2.2.1.2.2.2.1 ∧ r.2.2.1.2.2.2.1 ≤ 0 ∧ (r.2.2.1.2.2.2.2.2.1.size : Int) ≤ 0 ∧ 0 ≤ r.2.2.2.1.1 ∧ r.2.2.2.1.1 ≤ 48 ∧ 0 ≤ r.2.2.2.1.2.1 ∧ r.2.2.2.1.2.1 ≤ 4611686018427387903 ∧ 0 ≤ r.2.2.2.1.2.2.1 ∧ r.2.2.2.1.2.2.1 ≤ 0 ∧ 0 ≤ r.2.2.2.1.2.2.2.1 ∧ r.2.2.2.1.2.2.2.1 ≤ 0 ∧ (r.2.2.2.1.2.2.2.2.2.1.size : Int) ≤ 0 ∧ True) ?_ ?_
  · refine EvP.ite (fun c17 => ?_) (fun c17 => ?_)
    · refine EvP.andK (spec_l1Cur_num_s (b := (b + 2)) p7 (by omega) (by omega) (by omega)) ?_
      intro u3 q18
      obtain ⟨p19, p20, p21, p22, p23, -⟩ := q18
      have f24 : (⟨#[]⟩ : ByteArray).size = 0 := rfl
      exact EvP.some ⟨p21, (by (try dsimp only); omega), (by (try dsimp only); omega), (by (try dsimp only); omega), (by (try dsimp only); omega), (by (try dsimp only); omega), (by (try dsimp only); omega), (by (try dsimp only); omega), (by (try dsimp only); omega), (by (try dsimp only); omega), (by (try dsimp only); omega), (by (try dsimp only); omega), (by (try dsimp only); omega), (by (try dsimp only); omega), (by (try dsimp only); omega), (by (try dsimp only); omega), (by (try dsimp only); omega), (by (try dsimp only); omega), (by (try dsimp only); omega), (by (try dsimp only); omega), (by (try dsimp only); omega), trivial⟩
    · have f25 : (⟨#[]⟩ : ByteArray).size = 0 := rfl
      exact EvP.some ⟨p7, (by (try dsimp only); omega), (by (try dsimp only); omega), (by (try dsimp only); omega), (by (try dsimp only); omega), (by (try dsimp only); omega), (by (try dsimp only); omega), (by (try dsimp only); omega), (by (try dsimp only); omega), (by (try dsimp only); omega), (by (try dsimp only); omega), (by (try dsimp only); omega), (by (try dsimp only); omega), (by (try dsimp only); omega), (by (try dsimp only); omega), (by (try dsimp only); omega), (by (try dsimp only); omega), (by (try dsimp only); omega), (by (try dsimp only); omega), (by (try dsimp only); omega), (by (try dsimp only); omega), trivial⟩
  · intro j4 q26
    obtain ⟨p27, p28, p29, p30, p31, p32, p33, p34, p35, p36, p37, p38, p39, p40, p41, p42, p43, p44, p45, p46, p47, -⟩ := q26
    refine EvP.andK (Q := fun r => (∀ y ∈ r.2.1.1, 0 ≤ y ∧ y ≤ 255) ∧ 0 ≤ r.2.1.2.1 ∧ r.2.1.2.1 ≤ (b + 22) ∧ 0 ≤ r.2.2.1.1 ∧ r.2.2.1.1 ≤ 0 ∧ 0 ≤ r.2.2.1.2.1 ∧ r.2.2.1.2.1 ≤ 0 ∧ 0 ≤ r.2.2.1.2.2.1 ∧ r.2.2.1.2.2.1 ≤ 0 ∧ 0 ≤ r.2.2.1.2.2.2.1 ∧ r.2.2.1.2.2.2.1 ≤ 0 ∧ (r.2.2.1.2.2.2.2.2.1.size : Int) ≤ 0 ∧ 0 ≤ r.2.2.2.1.1 ∧ r.2.2.2.1.1 ≤ 48 ∧ 0 ≤ r.2.2.2.1.2.1 ∧ r.2.2.2.1.2.1 ≤ 4611686018427387903 ∧ 0 ≤ r.2.2.2.1.2.2.1 ∧ r.2.2.2.1.2.2.1 ≤ 4611686018427387903 ∧ 0 ≤ r.2.2.2.1.2.2.2.1 ∧ r.2.2.2.1.2.2.2.1 ≤ 0 ∧ (r.2.2.2.1.2.2.2.2.2.1.size : Int) ≤ 0 ∧ True) ?_ ?_
    · refine EvP.ite (fun c48 => ?_) (fun c48 => ?_)
      · refine EvP.andK (spec_l1Cur_num_s (b := (b + 12)) p27 (by omega) (by omega) (by omega)) ?_
        intro u5 q49
        obtain ⟨p50, p51, p52, p53, p54, -⟩ := q49
        exact EvP.some ⟨p52, (by (try dsimp only); omega), (by (try dsimp only); omega), (by (try dsimp only); omega), (by (try dsimp only); omega), (by (try dsimp only); omega), (by (try dsimp only); omega), (by (try dsimp only); omega), (by (try dsimp only); omega), (by (try dsimp only); omega), (by (try dsimp only); omega), (by (try dsimp only); omega), (by (try dsimp only); omega), (by (try dsimp only); omega), (by (try dsimp only); omega), (by (try dsimp only); omega), (by (try dsimp only); omega), (by (try dsimp only); omega), (by (try dsimp only); omega), (by (try dsimp only); omega), (by (try dsimp only); omega), trivial⟩
      · exact EvP.some ⟨p27, (by (try dsimp only); omega), (by (try dsimp only); omega), (by (try dsimp only); omega), (by (try dsimp only); omega), (by (try dsimp only); omega), (by (try dsimp only); omega), (by (try dsimp only); omega), (by (try dsimp only); omega), (by (try dsimp only); omega), (by (try dsimp only); omega), (by (try dsimp only); omega), (by (try dsimp only); omega), (by (try dsimp only); omega), (by (try dsimp only); omega), (by (try dsimp only); omega), (by (try dsimp only); omega), (by (try dsimp only); omega), (by (try dsimp only); omega), (by (try dsimp only); omega), (by (try dsimp only); omega), trivial⟩
    · intro j6 q55
      obtain ⟨p56, p57, p58, p59, p60, p61, p62, p63, p64, p65, p66, p67, p68, p69, p70, p71, p72, p73, p74, p75, p76, -⟩ := q55
      refine EvP.andK (Q := fun r => (∀ y ∈ r.2.1.1, 0 ≤ y ∧ y ≤ 255) ∧ 0 ≤ r.2.1.2.1 ∧ r.2.1.2.1 ≤ (b + 24) ∧ 0 ≤ r.2.2.1.1 ∧ r.2.2.1.1 ≤ 0 ∧ 0 ≤ r.2.2.1.2.1 ∧ r.2.2.1.2.1 ≤ 0 ∧ 0 ≤ r.2.2.1.2.2.1 ∧ r.2.2.1.2.2.1 ≤ 0 ∧ 0 ≤ r.2.2.1.2.2.2.1 ∧ r.2.2.1.2.2.2.1 ≤ 0 ∧ (r.2.2.1.2.2.2.2.2.1.size : Int) ≤ 0 ∧ 0 ≤ r.2.2.2.1.1 ∧ r.2.2.2.1.1 ≤ 48 ∧ 0 ≤ r.2.2.2.1.2.1 ∧ r.2.2.2.1.2.1 ≤ 4611686018427387903 ∧ 0 ≤ r.2.2.2.1.2.2.1 ∧ r.2.2.2.1.2.2.1 ≤ 4611686018427387903 ∧ 0 ≤ r.2.2.2.1.2.2.2.1 ∧ r.2.2.2.1.2.2.2.1 ≤ 199 ∧ (r.2.2.2.1.2.2.2.2.2.1.size : Int) ≤ 0 ∧ True) ?_ ?_
      · refine EvP.ite (fun c77 => ?_) (fun c77 => ?_)
        · refine EvP.andK (pick_s (b := (b + 22)) (n := 200) (m := 199) p56 (by omega) (by omega) (by omega) (by omega) (by omega)) ?_
          intro u7 q78
          obtain ⟨q79, q80⟩ := q78
          obtain ⟨p81, p82, p83, p84⟩ := q79
          obtain ⟨p85, p86, p87, -⟩ := q80
          exact EvP.some ⟨p85, (by (try dsimp only); omega), (by (try dsimp only); omega), (by (try dsimp only); omega), (by (try dsimp only); omega), (by (try dsimp only); omega), (by (try dsimp only); omega), (by (try dsimp only); omega), (by (try dsimp only); omega), (by (try dsimp only); omega), (by (try dsimp only); omega), (by (try dsimp only); omega), (by (try dsimp only); omega), (by (try dsimp only); omega), (by (try dsimp only); omega), (by (try dsimp only); omega), (by (try dsimp only); omega), (by (try dsimp only); omega), (by (try dsimp only); omega), (by (try dsimp only); omega), (by (try dsimp only); omega), trivial⟩
        · exact EvP.some ⟨p56, (by (try dsimp only); omega), (by (try dsimp only); omega), (by (try dsimp only); omega), (by (try dsimp only); omega), (by (try dsimp only); omega), (by (try dsimp only); omega), (by (try dsimp only); omega), (by (try dsimp only); omega), (by (try dsimp only); omega), (by (try dsimp only); omega), (by (try dsimp only); omega), (by (try dsimp only); omega), (by (try dsimp only); omega), (by (try dsimp only); omega), (by (try dsimp only); omega), (by (try dsimp only); omega), (by (try dsimp only); omega), (by (try dsimp only); omega), (by (try dsimp only); omega), (by (try dsimp only); omega), trivial⟩
      · intro j8 q88
        obtain ⟨p89, p90, p91, p92, p93, p94, p95, p96, p97, p98, p99, p100, p101, p102, p103, p104, p105, p106, p107, p108, p109, -⟩ := q88
        refine EvP.andK (Q := fun r => (∀ y ∈ r.2.1.1, 0 ≤ y ∧ y ≤ 255) ∧ 0 ≤ r.2.1.2.1 ∧ r.2.1.2.1 ≤ (b + 428) ∧ 0 ≤ r.2.2.1.1 ∧ r.2.2.1.1 ≤ 0 ∧ 0 ≤ r.2.2.1.2.1 ∧ r.2.2.1.2.1 ≤ 0 ∧ 0 ≤ r.2.2.1.2.2.1 ∧ r.2.2.1.2.2.1 ≤ 0 ∧ 0 ≤ r.2.2.1.2.2.2.1 ∧ r.2.2.1.2.2.2.1 ≤ 0 ∧ (r.2.2.1.2.2.2.2.2.1.size : Int) ≤ 0 ∧ 0 ≤ r.2.2.2.1.1 ∧ r.2.2.2.1.1 ≤ 48 ∧ 0 ≤ r.2.2.2.1.2.1 ∧ r.2.2.2.1.2.1 ≤ 4611686018427387903 ∧ 0 ≤ r.2.2.2.1.2.2.1 ∧ r.2.2.2.1.2.2.1 ≤ 4611686018427387903 ∧ 0 ≤ r.2.2.2.1.2.2.2.1 ∧ r.2.2.2.1.2.2.2.1 ≤ 199 ∧ (r.2.2.2.1.2.2.2.2.2.1.size : Int) ≤ 200 ∧ True) ?_ ?_
        · refine EvP.ite (fun c110 => ?_) (fun c110 => ?_)
          · refine EvP.andK (pick_s (b := (b + 24)) (n := 6) (m := 5) p89 (by omega) (by omega) (by omega) (by omega) (by omega)) ?_
            intro u9 q111
            obtain ⟨q112, q113⟩ := q111
            obtain ⟨p114, p115, p116, p117⟩ := q112
            obtain ⟨p118, p119, p120, -⟩ := q113
            refine EvP.andK (Q := fun r => 0 ≤ r.1.2.2.2.1 ∧ r.1.2.2.2.1 ≤ 200 ∧ (∀ y ∈ r.2.1.1, 0 ≤ y ∧ y ≤ 255) ∧ 0 ≤ r.2.1.2.1 ∧ r.2.1.2.1 ≤ (b + 28) ∧ 0 ≤ r.2.2.1.1 ∧ r.2.2.1.1 ≤ 0 ∧ 0 ≤ r.2.2.1.2.1 ∧ r.2.2.1.2.1 ≤ 0 ∧ 0 ≤ r.2.2.1.2.2.1 ∧ r.2.2.1.2.2.1 ≤ 0 ∧ 0 ≤ r.2.2.1.2.2.2.1 ∧ r.2.2.1.2.2.2.1 ≤ 0 ∧ (r.2.2.1.2.2.2.2.2.1.size : Int) ≤ 0 ∧ 0 ≤ r.2.2.2.1.1 ∧ r.2.2.2.1.1 ≤ 48 ∧ 0 ≤ r.2.2.2.1.2.1 ∧ r.2.2.2.1.2.1 ≤ 4611686018427387903 ∧ 0 ≤ r.2.2.2.1.2.2.1 ∧ r.2.2.2.1.2.2.1 ≤ 4611686018427387903 ∧ 0 ≤ r.2.2.2.1.2.2.2.1 ∧ r.2.2.2.1.2.2.2.1 ≤ 199 ∧ (r.2.2.2.1.2.2.2.2.2.1.size : Int) ≤ 0 ∧ True) ?_ ?_
            · refine EvP.andK (Q := fun r => (∀ y ∈ r.2.1.1, 0 ≤ y ∧ y ≤ 255) ∧ 0 ≤ r.2.1.2.1 ∧ r.2.1.2.1 ≤ (b + 28) ∧ 0 ≤ r.2.2.1.1 ∧ r.2.2.1.1 ≤ 0 ∧ 0 ≤ r.2.2.1.2.1 ∧ r.2.2.1.2.1 ≤ 0 ∧ 0 ≤ r.2.2.1.2.2.1 ∧ r.2.2.1.2.2.1 ≤ 0 ∧ 0 ≤ r.2.2.1.2.2.2.1 ∧ r.2.2.1.2.2.2.1 ≤ 0 ∧ (r.2.2.1.2.2.2.2.2.1.size : Int) ≤ 0 ∧ 0 ≤ r.2.2.2.1.1 ∧ r.2.2.2.1.1 ≤ 48 ∧ 0 ≤ r.2.2.2.1.2.1 ∧ r.2.2.2.1.2.1 ≤ 4611686018427387903 ∧ 0 ≤ r.2.2.2.1.2.2.1 ∧ r.2.2.2.1.2.2.1 ≤ 4611686018427387903 ∧ 0 ≤ r.2.2.2.1.2.2.2.1 ∧ r.2.2.2.1.2.2.2.1 ≤ 199 ∧ (r.2.2.2.1.2.2.2.2.2.1.size : Int) ≤ 0 ∧ True) ?_ ?_
              · have f121 := i64w (n := (u2.1.2.1 + u9.1.1)) (by omega) (by omega)
                refine EvP.ite (fun c122 => ?_) (fun c122 => ?_)
                · exact EvP.some ⟨p118, (by (try dsimp only); omega), (by (try dsimp only); omega), (by (try dsimp only); omega), (by (try dsimp only); omega), (by (try dsimp only); omega), (by (try dsimp only); omega), (by (try dsimp only); omega), (by (try dsimp only); omega), (by (try dsimp only); omega), (by (try dsimp only); omega), (by (try dsimp only); omega), (by (try dsimp only); omega), (by (try dsimp only); omega), (by (try dsimp only); omega), (by (try dsimp only); omega), (by (try dsimp only); omega), (by (try dsimp only); omega), (by (try dsimp only); omega), (by (try dsimp only); omega), (by (try dsimp only); omega), trivial⟩
                · refine EvP.andK (one_s (b := (b + 26)) p118 (by omega) (by omega) (by omega)) ?_
                  intro u10 q123
                  obtain ⟨p124, p125, p126, -⟩ := q123
                  exact EvP.some ⟨p124, (by (try dsimp only); omega), (by (try dsimp only); omega), (by (try dsimp only); omega), (by (try dsimp only); omega), (by (try dsimp only); omega), (by (try dsimp only); omega), (by (try dsimp only); omega), (by (try dsimp only); omega), (by (try dsimp only); omega), (by (try dsimp only); omega), (by (try dsimp only); omega), (by (try dsimp only); omega), (by (try dsimp only); omega), (by (try dsimp only); omega), (by (try dsimp only); omega), (by (try dsimp only); omega), (by (try dsimp only); omega), (by (try dsimp only); omega), (by (try dsimp only); omega), (by (try dsimp only); omega), trivial⟩
              · intro j11 q127
                obtain ⟨p128, p129, p130, p131, p132, p133, p134, p135, p136, p137, p138, p139, p140, p141, p142, p143, p144, p145, p146, p147, p148, -⟩ := q127
                refine EvP.sel (fun c149 => ?_) (fun c149 => ?_)
                · exact EvP.some ⟨(by (try dsimp only); omega), (by (try dsimp only); omega), p128, (by (try dsimp only); omega), (by (try dsimp only); omega), (by (try dsimp only); omega), (by (try dsimp only); omega), (by (try dsimp only); omega), (by (try dsimp only); omega), (by (try dsimp only); omega), (by (try dsimp only); omega), (by (try dsimp only); omega), (by (try dsimp only); omega), (by (try dsimp only); omega), (by (try dsimp only); omega), (by (try dsimp only); omega), (by (try dsimp only); omega), (by (try dsimp only); omega), (by (try dsimp only); omega), (by (try dsimp only); omega), (by (try dsimp only); omega), (by (try dsimp only); omega), (by (try dsimp only); omega), trivial⟩
                · have f150 := i64w (n := (u2.1.2.1 + u9.1.1)) (by omega) (by omega)
                  exact EvP.some ⟨(by (try dsimp only); omega), (by (try dsimp only); omega), p128, (by (try dsimp only); omega), (by (try dsimp only); omega), (by (try dsimp only); omega), (by (try dsimp only); omega), (by (try dsimp only); omega), (by (try dsimp only); omega), (by (try dsimp only); omega), (by (try dsimp only); omega), (by (try dsimp only); omega), (by (try dsimp only); omega), (by (try dsimp only); omega), (by (try dsimp only); omega), (by (try dsimp only); omega), (by (try dsimp only); omega), (by (try dsimp only); omega), (by (try dsimp only); omega), (by (try dsimp only); omega), (by (try dsimp only); omega), (by (try dsimp only); omega), (by (try dsimp only); omega), trivial⟩
            · intro j12 q151
              obtain ⟨p152, p153, p154, p155, p156, p157, p158, p159, p160, p161, p162, p163, p164, p165, p166, p167, p168, p169, p170, p171, p172, p173, p174, -⟩ := q151
              refine EvP.andK (sized_s (b := (b + 28)) (n := j12.1.2.2.2.1) (m := 200) p154 (by omega) (by omega) (by decide) (by omega) (by omega) (by omega)) ?_
              intro u13 q175
              obtain ⟨p176, p177, p178, p179, p180, -⟩ := q175
              have f181 := strL_size u13.2.2.1
              exact EvP.some ⟨p176, (by (try dsimp only); omega), (by (try dsimp only); omega), (by (try dsimp only); omega), (by (try dsimp only); omega), (by (try dsimp only); omega), (by (try dsimp only); omega), (by (try dsimp only); omega), (by (try dsimp only); omega), (by (try dsimp only); omega), (by (try dsimp only); omega), (by (try dsimp only); omega), (by (try dsimp only); omega), (by (try dsimp only); omega), (by (try dsimp only); omega), (by (try dsimp only); omega), (by (try dsimp only); omega), (by (try dsimp only); omega), (by (try dsimp only); omega), (by (try dsimp only); omega), (by (try dsimp only); omega), trivial⟩
          · exact EvP.some ⟨p89, (by (try dsimp only); omega), (by (try dsimp only); omega), (by (try dsimp only); omega), (by (try dsimp only); omega), (by (try dsimp only); omega), (by (try dsimp only); omega), (by (try dsimp only); omega), (by (try dsimp only); omega), (by (try dsimp only); omega), (by (try dsimp only); omega), (by (try dsimp only); omega), (by (try dsimp only); omega), (by (try dsimp only); omega), (by (try dsimp only); omega), (by (try dsimp only); omega), (by (try dsimp only); omega), (by (try dsimp only); omega), (by (try dsimp only); omega), (by (try dsimp only); omega), (by (try dsimp only); omega), trivial⟩
        · intro j14 q182
          obtain ⟨p183, p184, p185, p186, p187, p188, p189, p190, p191, p192, p193, p194, p195, p196, p197, p198, p199, p200, p201, p202, p203, -⟩ := q182
          refine EvP.andK (Q := fun r => (∀ y ∈ r.2.1.1, 0 ≤ y ∧ y ≤ 255) ∧ 0 ≤ r.2.1.2.1 ∧ r.2.1.2.1 ≤ (b + 460) ∧ 0 ≤ r.2.2.1.1 ∧ r.2.2.1.1 ≤ 0 ∧ 0 ≤ r.2.2.1.2.1 ∧ r.2.2.1.2.1 ≤ 0 ∧ 0 ≤ r.2.2.1.2.2.1 ∧ r.2.2.1.2.2.1 ≤ 0 ∧ 0 ≤ r.2.2.1.2.2.2.1 ∧ r.2.2.1.2.2.2.1 ≤ 0 ∧ (r.2.2.1.2.2.2.2.2.1.size : Int) ≤ 0 ∧ 0 ≤ r.2.2.2.1.1 ∧ r.2.2.2.1.1 ≤ 48 ∧ 0 ≤ r.2.2.2.1.2.1 ∧ r.2.2.2.1.2.1 ≤ 4611686018427387903 ∧ 0 ≤ r.2.2.2.1.2.2.1 ∧ r.2.2.2.1.2.2.1 ≤ 4611686018427387903 ∧ 0 ≤ r.2.2.2.1.2.2.2.1 ∧ r.2.2.2.1.2.2.2.1 ≤ 199 ∧ (r.2.2.2.1.2.2.2.2.2.1.size : Int) ≤ 200 ∧ (r.2.2.2.2.1.length : Int) ≤ 4 ∧ True) ?_ ?_
          · refine EvP.ite (fun c204 => ?_) (fun c204 => ?_)
            · refine EvP.andK (spec_l1Cur_ranges_s (b := (b + 428)) p183 (by omega) (by omega) (by omega)) ?_
              intro u15 q205
              obtain ⟨p206, p207, p208, p209, -⟩ := q205
              exact EvP.some ⟨p206, (by (try dsimp only); omega), (by (try dsimp only); omega), (by (try dsimp only); omega), (by (try dsimp only); omega), (by (try dsimp only); omega), (by (try dsimp only); omega), (by (try dsimp only); omega), (by (try dsimp only); omega), (by (try dsimp only); omega), (by (try dsimp only); omega), (by (try dsimp only); omega), (by (try dsimp only); omega), (by (try dsimp only); omega), (by (try dsimp only); omega), (by (try dsimp only); omega), (by (try dsimp only); omega), (by (try dsimp only); omega), (by (try dsimp only); omega), (by (try dsimp only); omega), (by (try dsimp only); omega), (by (try dsimp only); omega), trivial⟩
            · refine EvP.ite (fun c210 => ?_) (fun c210 => ?_)
              · refine EvP.andK (pick_s (b := (b + 428)) (n := 9) (m := 8) p183 (by omega) (by omega) (by omega) (by omega) (by omega)) ?_
                intro u16 q211
                obtain ⟨q212, q213⟩ := q211
                obtain ⟨p214, p215, p216, p217⟩ := q212
                obtain ⟨p218, p219, p220, -⟩ := q213
                have f221 : ([] : List (Int × Int)).length = 0 := rfl
                exact EvP.some ⟨p218, (by (try dsimp only); omega), (by (try dsimp only); omega), (by (try dsimp only); omega), (by (try dsimp only); omega), (by (try dsimp only); omega), (by (try dsimp only); omega), (by (try dsimp only); omega), (by (try dsimp only); omega), (by (try dsimp only); omega), (by (try dsimp only); omega), (by (try dsimp only); omega), (by (try dsimp only); omega), (by (try dsimp only); omega), (by (try dsimp only); omega), (by (try dsimp only); omega), (by (try dsimp only); omega), (by (try dsimp only); omega), (by (try dsimp only); omega), (by (try dsimp only); omega), (by (try dsimp only); omega), (by (try dsimp only); omega), trivial⟩
              · refine EvP.ite (fun c222 => ?_) (fun c222 => ?_)
                · refine EvP.andK (one_s (b := (b + 428)) p183 (by omega) (by omega) (by omega)) ?_
                  intro u17 q223
                  obtain ⟨p224, p225, p226, -⟩ := q223
                  refine EvP.andK (one_s (b := (b + 430)) p224 (by omega) (by omega) (by omega)) ?_
                  intro u18 q227
                  obtain ⟨p228, p229, p230, -⟩ := q227
                  refine EvP.sel (fun c231 => ?_) (fun c231 => ?_)
                  · have f232 : ([] : List (Int × Int)).length = 0 := rfl
                    exact EvP.some ⟨p228, (by (try dsimp only); omega), (by (try dsimp only); omega), (by (try dsimp only); omega), (by (try dsimp only); omega), (by (try dsimp only); omega), (by (try dsimp only); omega), (by (try dsimp only); omega), (by (try dsimp only); omega), (by (try dsimp only); omega), (by (try dsimp only); omega), (by (try dsimp only); omega), (by (try dsimp only); omega), (by (try dsimp only); omega), (by (try dsimp only); omega), (by (try dsimp only); omega), (by (try dsimp only); omega), (by (try dsimp only); omega), (by (try dsimp only); omega), (by (try dsimp only); omega), (by (try dsimp only); omega), (by (try dsimp only); omega), trivial⟩
                  · have f233 : ([] : List (Int × Int)).length = 0 := rfl
                    exact EvP.some ⟨p228, (by (try dsimp only); omega), (by (try dsimp only); omega), (by (try dsimp only); omega), (by (try dsimp only); omega), (by (try dsimp only); omega), (by (try dsimp only); omega), (by (try dsimp only); omega), (by (try dsimp only); omega), (by (try dsimp only); omega), (by (try dsimp only); omega), (by (try dsimp only); omega), (by (try dsimp only); omega), (by (try dsimp only); omega), (by (try dsimp only); omega), (by (try dsimp only); omega), (by (try dsimp only); omega), (by (try dsimp only); omega), (by (try dsimp only); omega), (by (try dsimp only); omega), (by (try dsimp only); omega), (by (try dsimp only); omega), trivial⟩
                · have f234 : ([] : List (Int × Int)).length = 0 := rfl
                  exact EvP.some ⟨p183, (by (try dsimp only); omega), (by (try dsimp only); omega), (by (try dsimp only); omega), (by (try dsimp only); omega), (by (try dsimp only); omega), (by (try dsimp only); omega), (by (try dsimp only); omega), (by (try dsimp only); omega), (by (try dsimp only); omega), (by (try dsimp only); omega), (by (try dsimp only); omega), (by (try dsimp only); omega), (by (try dsimp only); omega), (by (try dsimp only); omega), (by (try dsimp only); omega), (by (try dsimp only); omega), (by (try dsimp only); omega), (by (try dsimp only); omega), (by (try dsimp only); omega), (by (try dsimp only); omega), (by (try dsimp only); omega), trivial⟩
          · intro j19 q235
            obtain ⟨p236, p237, p238, p239, p240, p241, p242, p243, p244, p245, p246, p247, p248, p249, p250, p251, p252, p253, p254, p255, p256, p257, -⟩ := q235
            refine EvP.andK (pick_s (b := (b + 460)) (n := 60) (m := 59) p236 (by omega) (by omega) (by omega) (by omega) (by omega)) ?_
            intro u20 q258
            obtain ⟨q259, q260⟩ := q258
            obtain ⟨p261, p262, p263, p264⟩ := q259
            obtain ⟨p265, p266, p267, -⟩ := q260
            refine EvP.ite (fun c268 => ?_) (fun c268 => ?_)
            · have f269 : ([(-1), 4611686018427387904] : List Int).length = 2 := rfl
              refine EvP.andK (among_s (b := (b + 462)) (P := fun y => (-1) ≤ y ∧ y ≤ 4611686018427387904) (all_cons ⟨(by (try dsimp only); omega), (by (try dsimp only); omega)⟩ (all_cons ⟨(by (try dsimp only); omega), (by (try dsimp only); omega)⟩ all_nil)) (by decide) p265 (by omega) (by omega) (by omega)) ?_
              intro u21 q270
              obtain ⟨q271, q272⟩ := q270
              obtain ⟨p273, p274⟩ := q271
              obtain ⟨p275, p276, p277, -⟩ := q272
              exact EvP.some ⟨(by (try dsimp only); omega), (by (try dsimp only); omega), (by (try dsimp only); omega), (by (try dsimp only); omega), (by (try dsimp only); omega), (by (try dsimp only); omega), (by (try dsimp only); omega), (by (try dsimp only); omega), (by (try dsimp only); omega), (by (try dsimp only); omega), p275, (by (try dsimp only); omega), (by (try dsimp only); omega), trivial⟩
            · refine EvP.ite (fun c278 => ?_) (fun c278 => ?_)
              · refine EvP.chk (decide_eq_true (by omega)) ?_
                have f279 : (⟨#[120, 120, 120, 120, 120, 120, 120, 120, 120]⟩ : ByteArray).size = 9 := rfl
                have f280 : (j19.2.2.2.1.2.2.2.2.2.1 ++ (⟨#[120, 120, 120, 120, 120, 120, 120, 120, 120]⟩ : ByteArray)).size = j19.2.2.2.1.2.2.2.2.2.1.size + (⟨#[120, 120, 120, 120, 120, 120, 120, 120, 120]⟩ : ByteArray).size := ByteArray.size_append
                exact EvP.some ⟨(by (try dsimp only); omega), (by (try dsimp only); omega), (by (try dsimp only); omega), (by (try dsimp only); omega), (by (try dsimp only); omega), (by (try dsimp only); omega), (by (try dsimp only); omega), (by (try dsimp only); omega), (by (try dsimp only); omega), (by (try dsimp only); omega), p265, (by (try dsimp only); omega), (by (try dsimp only); omega), trivial⟩
              · refine EvP.ite (fun c281 => ?_) (fun c281 => ?_)
                · exact EvP.some ⟨(by (try dsimp only); omega), (by (try dsimp only); omega), (by (try dsimp only); omega), (by (try dsimp only); omega), (by (try dsimp only); omega), (by (try dsimp only); omega), (by (try dsimp only); omega), (by (try dsimp only); omega), (by (try dsimp only); omega), (by (try dsimp only); omega), p265, (by (try dsimp only); omega), (by (try dsimp only); omega), trivial⟩
                · refine EvP.ite (fun c282 => ?_) (fun c282 => ?_)
                  · refine EvP.andK (pick_s (b := (b + 462)) (n := 60) (m := 59) p265 (by omega) (by omega) (by omega) (by omega) (by omega)) ?_
                    intro u22 q283
                    obtain ⟨q284, q285⟩ := q283
                    obtain ⟨p286, p287, p288, p289⟩ := q284
                    obtain ⟨p290, p291, p292, -⟩ := q285
                    exact EvP.some ⟨(by (try dsimp only); omega), (by (try dsimp only); omega), (by (try dsimp only); omega), (by (try dsimp only); omega), (by (try dsimp only); omega), (by (try dsimp only); omega), (by (try dsimp only); omega), (by (try dsimp only); omega), (by (try dsimp only); omega), (by (try dsimp only); omega), p290, (by (try dsimp only); omega), (by (try dsimp only); omega), trivial⟩
                  · exact EvP.some ⟨(by (try dsimp only); omega), (by (try dsimp only); omega), (by (try dsimp only); omega), (by (try dsimp only); omega), (by (try dsimp only); omega), (by (try dsimp only); omega), (by (try dsimp only); omega), (by (try dsimp only); omega), (by (try dsimp only); omega), (by (try dsimp only); omega), p265, (by (try dsimp only); omega), (by (try dsimp only); omega), trivial⟩

theorem spec_l1Shape_s2 {kind : Int} (h0 : 0 ≤ kind) (h1 : kind ≤ 59) : EvP (fun N => spec_l1Shape N kind) (fun r => (-1) ≤ r.1.1 ∧ r.1.1 ≤ 3 ∧ 0 ≤ r.1.2.1 ∧ r.1.2.1 ≤ 8 ∧ 0 ≤ r.1.2.2.1 ∧ r.1.2.2.1 ≤ 200 ∧ True) := by
  refine EvP.of (fun N => spec_l1Shape.eq N _) ?_
  refine EvP.ite (fun c1 => ?_) (fun c1 => ?_)
  · refine EvP.ite (fun c2 => ?_) (fun c2 => ?_)
    · exact EvP.some ⟨(by (try dsimp only); omega), (by (try dsimp only); omega), (by (try dsimp only); omega), (by (try dsimp only); omega), (by (try dsimp only); omega), (by (try dsimp only); omega), trivial⟩
    · refine EvP.neg (by omega) ?_
      refine EvP.neg (by omega) ?_
      refine EvP.neg (by omega) ?_
      refine EvP.neg (by omega) ?_
      refine EvP.neg (by omega) ?_
      refine EvP.neg (by omega) ?_
      refine EvP.neg (by omega) ?_
      refine EvP.neg (by omega) ?_
      refine EvP.neg (by omega) ?_
      refine EvP.neg (by omega) ?_
      refine EvP.neg (by omega) ?_
      refine EvP.neg (by omega) ?_
      refine EvP.neg (by omega) ?_
      exact EvP.some ⟨(by (try dsimp only); omega), (by (try dsimp only); omega), (by (try dsimp only); omega), (by (try dsimp only); omega), (by (try dsimp only); omega), (by (try dsimp only); omega), trivial⟩
  · refine EvP.ite (fun c16 => ?_) (fun c16 => ?_)
    · exact EvP.some ⟨(by (try dsimp only); omega), (by (try dsimp only); omega), (by (try dsimp only); omega), (by (try dsimp only); omega), (by (try dsimp only); omega), (by (try dsimp only); omega), trivial⟩
    · refine EvP.ite (fun c17 => ?_) (fun c17 => ?_)
      · refine EvP.ite (fun c18 => ?_) (fun c18 => ?_)
        · exact EvP.some ⟨(by (try dsimp only); omega), (by (try dsimp only); omega), (by (try dsimp only); omega), (by (try dsimp only); omega), (by (try dsimp only); omega), (by (try dsimp only); omega), trivial⟩
        · refine EvP.neg (by omega) ?_
          refine EvP.neg (by omega) ?_
          refine EvP.neg (by omega) ?_
          refine EvP.neg (by omega) ?_
          refine EvP.neg (by omega) ?_
          refine EvP.neg (by omega) ?_
          refine EvP.neg (by omega) ?_
          refine EvP.neg (by omega) ?_
          refine EvP.neg (by omega) ?_
          refine EvP.neg (by omega) ?_
          refine EvP.neg (by omega) ?_
          exact EvP.some ⟨(by (try dsimp only); omega), (by (try dsimp only); omega), (by (try dsimp only); omega), (by (try dsimp only); omega), (by (try dsimp only); omega), (by (try dsimp only); omega), trivial⟩
      · refine EvP.ite (fun c30 => ?_) (fun c30 => ?_)
        · exact EvP.some ⟨(by (try dsimp only); omega), (by (try dsimp only); omega), (by (try dsimp only); omega), (by (try dsimp only); omega), (by (try dsimp only); omega), (by (try dsimp only); omega), trivial⟩
        · refine EvP.ite (fun c31 => ?_) (fun c31 => ?_)
          · refine EvP.ite (fun c32 => ?_) (fun c32 => ?_)
            · exact EvP.some ⟨(by (try dsimp only); omega), (by (try dsimp only); omega), (by (try dsimp only); omega), (by (try dsimp only); omega), (by (try dsimp only); omega), (by (try dsimp only); omega), trivial⟩
            · refine EvP.neg (by omega) ?_
              refine EvP.neg (by omega) ?_
              refine EvP.neg (by omega) ?_
              refine EvP.neg (by omega) ?_
              refine EvP.neg (by omega) ?_
              refine EvP.neg (by omega) ?_
              refine EvP.neg (by omega) ?_
              refine EvP.neg (by omega) ?_
              refine EvP.neg (by omega) ?_
              exact EvP.some ⟨(by (try dsimp only); omega), (by (try dsimp only); omega), (by (try dsimp only); omega), (by (try dsimp only); omega), (by (try dsimp only); omega), (by (try dsimp only); omega), trivial⟩
          · refine EvP.ite (fun c42 => ?_) (fun c42 => ?_)
            · exact EvP.some ⟨(by (try dsimp only); omega), (by (try dsimp only); omega), (by (try dsimp only); omega), (by (try dsimp only); omega), (by (try dsimp only); omega), (by (try dsimp only); omega), trivial⟩
            · refine EvP.ite (fun c43 => ?_) (fun c43 => ?_)
              · exact EvP.some ⟨(by (try dsimp only); omega), (by (try dsimp only); omega), (by (try dsimp only); omega), (by (try dsimp only); omega), (by (try dsimp only); omega), (by (try dsimp only); omega), trivial⟩
              · refine EvP.ite (fun c44 => ?_) (fun c44 => ?_)
                · refine EvP.ite (fun c45 => ?_) (fun c45 => ?_)
                  · exact EvP.some ⟨(by (try dsimp only); omega), (by (try dsimp only); omega), (by (try dsimp only); omega), (by (try dsimp only); omega), (by (try dsimp only); omega), (by (try dsimp only); omega), trivial⟩
                  · refine EvP.neg (by omega) ?_
                    refine EvP.neg (by omega) ?_
                    refine EvP.neg (by omega) ?_
                    refine EvP.neg (by omega) ?_
                    refine EvP.neg (by omega) ?_
                    refine EvP.neg (by omega) ?_
                    exact EvP.some ⟨(by (try dsimp only); omega), (by (try dsimp only); omega), (by (try dsimp only); omega), (by (try dsimp only); omega), (by (try dsimp only); omega), (by (try dsimp only); omega), trivial⟩
                · refine EvP.ite (fun c52 => ?_) (fun c52 => ?_)
                  · exact EvP.some ⟨(by (try dsimp only); omega), (by (try dsimp only); omega), (by (try dsimp only); omega), (by (try dsimp only); omega), (by (try dsimp only); omega), (by (try dsimp only); omega), trivial⟩
                  · refine EvP.ite (fun c53 => ?_) (fun c53 => ?_)
                    · exact EvP.some ⟨(by (try dsimp only); omega), (by (try dsimp only); omega), (by (try dsimp only); omega), (by (try dsimp only); omega), (by (try dsimp only); omega), (by (try dsimp only); omega), trivial⟩
                    · refine EvP.ite (fun c54 => ?_) (fun c54 => ?_)
                      · exact EvP.some ⟨(by (try dsimp only); omega), (by (try dsimp only); omega), (by (try dsimp only); omega), (by (try dsimp only); omega), (by (try dsimp only); omega), (by (try dsimp only); omega), trivial⟩
                      · refine EvP.ite (fun c55 => ?_) (fun c55 => ?_)
                        · exact EvP.some ⟨(by (try dsimp only); omega), (by (try dsimp only); omega), (by (try dsimp only); omega), (by (try dsimp only); omega), (by (try dsimp only); omega), (by (try dsimp only); omega), trivial⟩
                        · refine EvP.ite (fun c56 => ?_) (fun c56 => ?_)
                          · refine EvP.ite (fun c57 => ?_) (fun c57 => ?_)
                            · exact EvP.some ⟨(by (try dsimp only); omega), (by (try dsimp only); omega), (by (try dsimp only); omega), (by (try dsimp only); omega), (by (try dsimp only); omega), (by (try dsimp only); omega), trivial⟩
                            · refine EvP.neg (by omega) ?_
                              exact EvP.some ⟨(by (try dsimp only); omega), (by (try dsimp only); omega), (by (try dsimp only); omega), (by (try dsimp only); omega), (by (try dsimp only); omega), (by (try dsimp only); omega), trivial⟩
                          · refine EvP.ite (fun c59 => ?_) (fun c59 => ?_)
                            · exact EvP.some ⟨(by (try dsimp only); omega), (by (try dsimp only); omega), (by (try dsimp only); omega), (by (try dsimp only); omega), (by (try dsimp only); omega), (by (try dsimp only); omega), trivial⟩
                            · refine EvP.ite (fun c60 => ?_) (fun c60 => ?_)
                              · exact EvP.some ⟨(by (try dsimp only); omega), (by (try dsimp only); omega), (by (try dsimp only); omega), (by (try dsimp only); omega), (by (try dsimp only); omega), (by (try dsimp only); omega), trivial⟩
                              · exact EvP.some ⟨(by (try dsimp only); omega), (by (try dsimp only); omega), (by (try dsimp only); omega), (by (try dsimp only); omega), (by (try dsimp only); omega), (by (try dsimp only); omega), trivial⟩

theorem spec_l1In_s {n : Int} {lo : Int} {hi : Int} (h0 : (-1) ≤ n) (h1 : n ≤ 4611686018427387904) (h2 : 0 ≤ lo) (h3 : lo ≤ 0) (h4 : 4611686018427387903 ≤ hi) (h5 : hi ≤ 4611686018427387903) : EvP (fun N => spec_l1In N n lo hi) (fun r => True) := by
  refine EvP.of (fun N => spec_l1In.eq N _ _ _) ?_
  refine EvP.ite (fun c1 => ?_) (fun c1 => ?_)
  · exact EvP.some trivial
  · exact EvP.some trivial

theorem spec_l1Known_s {n : Int} (h0 : (-1) ≤ n) (h1 : n ≤ 4611686018427387904) : EvP (fun N => spec_l1Known N n) (fun r => True) := by
  refine EvP.of (fun N => spec_l1Known.eq N _) ?_
  refine EvP.andK (spec_l1In_s (by omega) (by omega) (by omega) (by omega) (by omega) (by omega)) ?_
  intro u1 q1
  exact EvP.some trivial

theorem spec_l1In_s2 {n : Int} {lo : Int} {hi : Int} (h0 : 0 ≤ n) (h1 : n ≤ 4611686018427387903) (h2 : 0 ≤ lo) (h3 : lo ≤ 0) (h4 : 4611686018427387903 ≤ hi) (h5 : hi ≤ 4611686018427387903) : EvP (fun N => spec_l1In N n lo hi) (fun r => True) := by
  refine EvP.of (fun N => spec_l1In.eq N _ _ _) ?_
  refine EvP.pos (by omega) ?_
  exact EvP.some trivial

theorem spec_l1Known_s2 {n : Int} (h0 : 0 ≤ n) (h1 : n ≤ 4611686018427387903) : EvP (fun N => spec_l1Known N n) (fun r => True) := by
  refine EvP.of (fun N => spec_l1Known.eq N _) ?_
  refine EvP.andK (spec_l1In_s2 (by omega) (by omega) (by omega) (by omega) (by omega) (by omega)) ?_
  intro u1 q1
  exact EvP.some trivial

theorem spec_l1In_s3 {n : Int} {lo : Int} {hi : Int} (h0 : 0 ≤ n) (h1 : n ≤ 199) (h2 : 0 ≤ lo) (h3 : lo ≤ 0) (h4 : 4611686018427387903 ≤ hi) (h5 : hi ≤ 4611686018427387903) : EvP (fun N => spec_l1In N n lo hi) (fun r => True) := by
  refine EvP.of (fun N => spec_l1In.eq N _ _ _) ?_
  refine EvP.pos (by omega) ?_
  exact EvP.some trivial

theorem spec_l1Known_s3 {n : Int} (h0 : 0 ≤ n) (h1 : n ≤ 199) : EvP (fun N => spec_l1Known N n) (fun r => True) := by
  refine EvP.of (fun N => spec_l1Known.eq N _) ?_
  refine EvP.andK (spec_l1In_s3 (by omega) (by omega) (by omega) (by omega) (by omega) (by omega)) ?_
  intro u1 q1
  exact EvP.some trivial

theorem spec_l1In_s4 {n : Int} {lo : Int} {hi : Int} (h0 : 0 ≤ n) (h1 : n ≤ 209) (h2 : 0 ≤ lo) (h3 : lo ≤ 8) (h4 : 0 ≤ hi) (h5 : hi ≤ 200) : EvP (fun N => spec_l1In N n lo hi) (fun r => True) := by
  refine EvP.of (fun N => spec_l1In.eq N _ _ _) ?_
  refine EvP.ite (fun c1 => ?_) (fun c1 => ?_)
  · exact EvP.some trivial
  · exact EvP.some trivial

theorem spec_l1In_s5 {n : Int} {lo : Int} {hi : Int} (h0 : 0 ≤ lo) (h1 : lo ≤ 0) : EvP (fun N => spec_l1In N n lo hi) (fun r => True) := by
  refine EvP.of (fun N => spec_l1In.eq N _ _ _) ?_
  refine EvP.ite (fun c1 => ?_) (fun c1 => ?_)
  · exact EvP.some trivial
  · exact EvP.some trivial

theorem spec_l1In_s6 {n : Int} {lo : Int} {hi : Int} (h0 : 0 ≤ lo) (h1 : lo ≤ 0) (h2 : 4611686018427387903 ≤ hi) (h3 : hi ≤ 4611686018427387903) : EvP (fun N => spec_l1In N n lo hi) (fun r => True) := by
  refine EvP.of (fun N => spec_l1In.eq N _ _ _) ?_
  refine EvP.ite (fun c1 => ?_) (fun c1 => ?_)
  · exact EvP.some trivial
  · exact EvP.some trivial

theorem spec_l1Known_s4 {n : Int} : EvP (fun N => spec_l1Known N n) (fun r => True) := by
  refine EvP.of (fun N => spec_l1Known.eq N _) ?_
  refine EvP.andK (spec_l1In_s6 (by omega) (by omega) (by omega) (by omega)) ?_
  intro u1 q1
  exact EvP.some trivial

theorem spec_l1Ranges_l0_s (d : Nat) : ∀ (t : Int) (l1 : (List (Int × Int))) (t5 : (List (Int × Int))) (t6 : Int) (t7 : Int), 0 ≤ t → t ≤ 4 → t + (t6 - t7) ≤ 4 → t6 - t7 ≤ (d : Int) → (l1.length : Int) ≤ 4 → (t5.length : Int) ≤ 4 → 0 ≤ t6 → t6 ≤ 4 → 0 ≤ t7 → t7 ≤ 5 → t6 = (l1.length : Int) → t6 = (t5.length : Int) → EvP (fun N => spec_l1Ranges.l0 N l1 t5 t6 t7) (fun r => (∀ x, r = .inl x → True) ∧ (∀ x, r = .inr x → True)) := by
  induction d with
  | zero =>
    intro t l1 t5 t6 t7 t0 t1 t2 t3 h0 h1 h2 h3 h4 h5 e0 e1
    refine EvP.step (fun N => spec_l1Ranges.l0.eq N _ _ _ _) ?_
    refine EvP.ite (fun c1 => ?_) (fun c1 => ?_)
    · refine EvP.chk (and_i (decide_eq_true (by omega)) (decide_eq_true (by omega))) ?_
      refine EvP.andK (Q := fun r => True) ?_ ?_
      · refine EvP.andK (spec_l1In_s5 (by omega) (by omega)) ?_
        intro u1 q2
        refine EvP.sel (fun c3 => ?_) (fun c3 => ?_)
        · exact EvP.some trivial
        · refine EvP.andK (spec_l1Known_s4) ?_
          intro u2 q4
          refine EvP.sel (fun c5 => ?_) (fun c5 => ?_)
          · exact EvP.some trivial
          · refine EvP.ite (fun c6 => ?_) (fun c6 => ?_)
            · have f7 := i64w (n := (t7 - 1)) (by omega) (by omega)
              refine EvP.chk (and_i (decide_eq_true (by omega)) (decide_eq_true (by omega))) ?_
              have f8 := i64_range (((rdS (.pair (.int .i64) (.int .i64)) l1 (Int.toNat (IntKind.i64.wrap (t7 - 1)))).1 - 2))
              exact EvP.some trivial
            · exact EvP.some trivial
      · intro j3 q9
        refine EvP.sel (fun c10 => ?_) (fun c10 => ?_)
        · exact EvP.some ⟨(fun x e => by cases e; exact trivial), (fun x e => by cases e)⟩
        · omega
    · exact EvP.some ⟨(fun x e => by cases e), (fun x e => by cases e; exact trivial)⟩
  | succ d ih =>
    intro t l1 t5 t6 t7 t0 t1 t2 t3 h0 h1 h2 h3 h4 h5 e0 e1
    refine EvP.step (fun N => spec_l1Ranges.l0.eq N _ _ _ _) ?_
    refine EvP.ite (fun c1 => ?_) (fun c1 => ?_)
    · refine EvP.chk (and_i (decide_eq_true (by omega)) (decide_eq_true (by omega))) ?_
      refine EvP.andK (Q := fun r => True) ?_ ?_
      · refine EvP.andK (spec_l1In_s5 (by omega) (by omega)) ?_
        intro u1 q2
        refine EvP.sel (fun c3 => ?_) (fun c3 => ?_)
        · exact EvP.some trivial
        · refine EvP.andK (spec_l1Known_s4) ?_
          intro u2 q4
          refine EvP.sel (fun c5 => ?_) (fun c5 => ?_)
          · exact EvP.some trivial
          · refine EvP.ite (fun c6 => ?_) (fun c6 => ?_)
            · have f7 := i64w (n := (t7 - 1)) (by omega) (by omega)
              refine EvP.chk (and_i (decide_eq_true (by omega)) (decide_eq_true (by omega))) ?_
              have f8 := i64_range (((rdS (.pair (.int .i64) (.int .i64)) l1 (Int.toNat (IntKind.i64.wrap (t7 - 1)))).1 - 2))
              exact EvP.some trivial
            · exact EvP.some trivial
      · intro j3 q9
        refine EvP.sel (fun c10 => ?_) (fun c10 => ?_)
        · exact EvP.some ⟨(fun x e => by cases e; exact trivial), (fun x e => by cases e)⟩
        · have f11 := i64w (n := (t7 + 1)) (by omega) (by omega)
          exact ih (t + 1) _ _ _ _ (by omega) (by omega) (by omega) (by omega) (by omega) (by omega) (by omega) (by omega) (by omega) (by omega) (by omega) (by omega)
    · exact EvP.some ⟨(fun x e => by cases e), (fun x e => by cases e; exact trivial)⟩

theorem spec_l1In_s7 {n : Int} {lo : Int} {hi : Int} (h0 : 0 ≤ n) (h1 : n ≤ 4) (h2 : 1 ≤ lo) (h3 : lo ≤ 1) (h4 : 20 ≤ hi) (h5 : hi ≤ 20) : EvP (fun N => spec_l1In N n lo hi) (fun r => True) := by
  refine EvP.of (fun N => spec_l1In.eq N _ _ _) ?_
  refine EvP.ite (fun c1 => ?_) (fun c1 => ?_)
  · exact EvP.some trivial
  · exact EvP.some trivial

theorem spec_l1Ranges_s {l : (List (Int × Int))} (h0 : (l.length : Int) ≤ 4) : EvP (fun N => spec_l1Ranges N l) (fun r => True) := by
  refine EvP.of (fun N => spec_l1Ranges.eq N _) ?_
  refine EvP.andK (spec_l1Ranges_l0_s 4 0 _ _ _ _ (by omega) (by omega) (by omega) (by omega) (by omega) (by omega) (by omega) (by omega) (by omega) (by omega) (by omega) (by omega)) ?_
  intro l4 q1
  refine EvP.or (fun x5 e2 => ?_) (fun x6 e3 => ?_)
  · have r4 := q1.1 x5 (by rw [e2])
    exact EvP.some trivial
  · have r5 := q1.2 x6 (by rw [e3])
    refine EvP.andK (spec_l1In_s7 (by omega) (by omega) (by omega) (by omega) (by omega) (by omega)) ?_
    intro u7 q6
    exact EvP.some trivial

theorem spec_GoodFrame_s {G_0 : Int} {G_1 : Int} {G_2 : Int} {G_3 : Int} {G_4 : Bool} {G_5 : ByteArray} {G_6 : (List (Int × Int))} (h0 : 0 ≤ G_0) (h1 : G_0 ≤ 59) (h2 : (-1) ≤ G_1) (h3 : G_1 ≤ 4611686018427387904) (h4 : 0 ≤ G_2) (h5 : G_2 ≤ 4611686018427387903) (h6 : 0 ≤ G_3) (h7 : G_3 ≤ 199) (h8 : (G_5.size : Int) ≤ 209) (h9 : (G_6.length : Int) ≤ 4) : EvP (fun N => spec_GoodFrame N G_0 G_1 G_2 G_3 G_4 G_5 G_6) (fun r => True) := by
  refine EvP.of (fun N => spec_GoodFrame.eq N _ _ _ _ _ _ _) ?_
  refine EvP.andK (spec_l1Shape_s2 (by omega) (by omega)) ?_
  intro u1 q1
  obtain ⟨p2, p3, p4, p5, p6, p7, -⟩ := q1
  refine EvP.andK (Q := fun r => 0 ≤ r.2.1.1 ∧ r.2.1.1 ≤ 59 ∧ (-1) ≤ r.2.1.2.1 ∧ r.2.1.2.1 ≤ 4611686018427387904 ∧ 0 ≤ r.2.1.2.2.1 ∧ r.2.1.2.2.1 ≤ 4611686018427387903 ∧ 0 ≤ r.2.1.2.2.2.1 ∧ r.2.1.2.2.2.1 ≤ 199 ∧ (r.2.1.2.2.2.2.2.1.size : Int) ≤ 209 ∧ (r.2.1.2.2.2.2.2.2.1.length : Int) ≤ 4 ∧ True) ?_ ?_
  · refine EvP.ite (fun c8 => ?_) (fun c8 => ?_)
    · exact EvP.some ⟨(by (try dsimp only); omega), (by (try dsimp only); omega), (by (try dsimp only); omega), (by (try dsimp only); omega), (by (try dsimp only); omega), (by (try dsimp only); omega), (by (try dsimp only); omega), (by (try dsimp only); omega), (by (try dsimp only); omega), (by (try dsimp only); omega), trivial⟩
    · refine EvP.andK (spec_l1Known_s (by omega) (by omega)) ?_
      intro u2 q9
      refine EvP.sel (fun c10 => ?_) (fun c10 => ?_)
      · exact EvP.some ⟨(by (try dsimp only); omega), (by (try dsimp only); omega), (by (try dsimp only); omega), (by (try dsimp only); omega), (by (try dsimp only); omega), (by (try dsimp only); omega), (by (try dsimp only); omega), (by (try dsimp only); omega), (by (try dsimp only); omega), (by (try dsimp only); omega), trivial⟩
      · refine EvP.andK (spec_l1Known_s2 (by omega) (by omega)) ?_
        intro u3 q11
        refine EvP.sel (fun c12 => ?_) (fun c12 => ?_)
        · exact EvP.some ⟨(by (try dsimp only); omega), (by (try dsimp only); omega), (by (try dsimp only); omega), (by (try dsimp only); omega), (by (try dsimp only); omega), (by (try dsimp only); omega), (by (try dsimp only); omega), (by (try dsimp only); omega), (by (try dsimp only); omega), (by (try dsimp only); omega), trivial⟩
        · refine EvP.andK (spec_l1Known_s3 (by omega) (by omega)) ?_
          intro u4 q13
          refine EvP.sel (fun c14 => ?_) (fun c14 => ?_)
          · exact EvP.some ⟨(by (try dsimp only); omega), (by (try dsimp only); omega), (by (try dsimp only); omega), (by (try dsimp only); omega), (by (try dsimp only); omega), (by (try dsimp only); omega), (by (try dsimp only); omega), (by (try dsimp only); omega), (by (try dsimp only); omega), (by (try dsimp only); omega), trivial⟩
          · refine EvP.andK (spec_l1In_s4 (by omega) (by omega) (by omega) (by omega) (by omega) (by omega)) ?_
            intro u5 q15
            refine EvP.sel (fun c16 => ?_) (fun c16 => ?_)
            · exact EvP.some ⟨(by (try dsimp only); omega), (by (try dsimp only); omega), (by (try dsimp only); omega), (by (try dsimp only); omega), (by (try dsimp only); omega), (by (try dsimp only); omega), (by (try dsimp only); omega), (by (try dsimp only); omega), (by (try dsimp only); omega), (by (try dsimp only); omega), trivial⟩
            · refine EvP.sel (fun c17 => ?_) (fun c17 => ?_)
              · exact EvP.some ⟨(by (try dsimp only); omega), (by (try dsimp only); omega), (by (try dsimp only); omega), (by (try dsimp only); omega), (by (try dsimp only); omega), (by (try dsimp only); omega), (by (try dsimp only); omega), (by (try dsimp only); omega), (by (try dsimp only); omega), (by (try dsimp only); omega), trivial⟩
              · exact EvP.some ⟨(by (try dsimp only); omega), (by (try dsimp only); omega), (by (try dsimp only); omega), (by (try dsimp only); omega), (by (try dsimp only); omega), (by (try dsimp only); omega), (by (try dsimp only); omega), (by (try dsimp only); omega), (by (try dsimp only); omega), (by (try dsimp only); omega), trivial⟩
  · intro j6 q18
    obtain ⟨p19, p20, p21, p22, p23, p24, p25, p26, p27, p28, -⟩ := q18
    refine EvP.sel (fun c29 => ?_) (fun c29 => ?_)
    · exact EvP.some trivial
    · refine EvP.andK (Q := fun r => 0 ≤ r.2.1.1 ∧ r.2.1.1 ≤ 59 ∧ (-1) ≤ r.2.1.2.1 ∧ r.2.1.2.1 ≤ 4611686018427387904 ∧ 0 ≤ r.2.1.2.2.1 ∧ r.2.1.2.2.1 ≤ 4611686018427387903 ∧ 0 ≤ r.2.1.2.2.2.1 ∧ r.2.1.2.2.2.1 ≤ 199 ∧ (r.2.1.2.2.2.2.2.1.size : Int) ≤ 209 ∧ (r.2.1.2.2.2.2.2.2.1.length : Int) ≤ 4 ∧ True) ?_ ?_
      · refine EvP.ite (fun c30 => ?_) (fun c30 => ?_)
        · refine EvP.nite (fun c31 => ?_) (fun c31 => ?_)
          · exact EvP.some ⟨(by (try dsimp only); omega), (by (try dsimp only); omega), (by (try dsimp only); omega), (by (try dsimp only); omega), (by (try dsimp only); omega), (by (try dsimp only); omega), (by (try dsimp only); omega), (by (try dsimp only); omega), (by (try dsimp only); omega), (by (try dsimp only); omega), trivial⟩
          · refine EvP.ite (fun c32 => ?_) (fun c32 => ?_)
            · refine EvP.nite (fun c33 => ?_) (fun c33 => ?_)
              · exact EvP.some ⟨(by (try dsimp only); omega), (by (try dsimp only); omega), (by (try dsimp only); omega), (by (try dsimp only); omega), (by (try dsimp only); omega), (by (try dsimp only); omega), (by (try dsimp only); omega), (by (try dsimp only); omega), (by (try dsimp only); omega), (by (try dsimp only); omega), trivial⟩
              · refine EvP.ite (fun c34 => ?_) (fun c34 => ?_)
                · exact EvP.some ⟨(by (try dsimp only); omega), (by (try dsimp only); omega), (by (try dsimp only); omega), (by (try dsimp only); omega), (by (try dsimp only); omega), (by (try dsimp only); omega), (by (try dsimp only); omega), (by (try dsimp only); omega), (by (try dsimp only); omega), (by (try dsimp only); omega), trivial⟩
                · exact EvP.some ⟨(by (try dsimp only); omega), (by (try dsimp only); omega), (by (try dsimp only); omega), (by (try dsimp only); omega), (by (try dsimp only); omega), (by (try dsimp only); omega), (by (try dsimp only); omega), (by (try dsimp only); omega), (by (try dsimp only); omega), (by (try dsimp only); omega), trivial⟩
            · refine EvP.neg (by omega) ?_
              exact EvP.some ⟨(by (try dsimp only); omega), (by (try dsimp only); omega), (by (try dsimp only); omega), (by (try dsimp only); omega), (by (try dsimp only); omega), (by (try dsimp only); omega), (by (try dsimp only); omega), (by (try dsimp only); omega), (by (try dsimp only); omega), (by (try dsimp only); omega), trivial⟩
        · refine EvP.neg (by omega) ?_
          refine EvP.neg (by omega) ?_
          exact EvP.some ⟨(by (try dsimp only); omega), (by (try dsimp only); omega), (by (try dsimp only); omega), (by (try dsimp only); omega), (by (try dsimp only); omega), (by (try dsimp only); omega), (by (try dsimp only); omega), (by (try dsimp only); omega), (by (try dsimp only); omega), (by (try dsimp only); omega), trivial⟩
      · intro j7 q38
        obtain ⟨p39, p40, p41, p42, p43, p44, p45, p46, p47, p48, -⟩ := q38
        refine EvP.sel (fun c49 => ?_) (fun c49 => ?_)
        · exact EvP.some trivial
        · refine EvP.andK (Q := fun r => 0 ≤ r.2.1.1 ∧ r.2.1.1 ≤ 59 ∧ (-1) ≤ r.2.1.2.1 ∧ r.2.1.2.1 ≤ 4611686018427387904 ∧ 0 ≤ r.2.1.2.2.1 ∧ r.2.1.2.2.1 ≤ 4611686018427387903 ∧ 0 ≤ r.2.1.2.2.2.1 ∧ r.2.1.2.2.2.1 ≤ 199 ∧ (r.2.1.2.2.2.2.2.1.size : Int) ≤ 209 ∧ (r.2.1.2.2.2.2.2.2.1.length : Int) ≤ 4 ∧ True) ?_ ?_
          · refine EvP.sel (fun c50 => ?_) (fun c50 => ?_)
            · exact EvP.some ⟨(by (try dsimp only); omega), (by (try dsimp only); omega), (by (try dsimp only); omega), (by (try dsimp only); omega), (by (try dsimp only); omega), (by (try dsimp only); omega), (by (try dsimp only); omega), (by (try dsimp only); omega), (by (try dsimp only); omega), (by (try dsimp only); omega), trivial⟩
            · refine EvP.ite (fun c51 => ?_) (fun c51 => ?_)
              · refine EvP.andK (spec_l1Ranges_s (by omega)) ?_
                intro u8 q52
                exact EvP.some ⟨(by (try dsimp only); omega), (by (try dsimp only); omega), (by (try dsimp only); omega), (by (try dsimp only); omega), (by (try dsimp only); omega), (by (try dsimp only); omega), (by (try dsimp only); omega), (by (try dsimp only); omega), (by (try dsimp only); omega), (by (try dsimp only); omega), trivial⟩
              · exact EvP.some ⟨(by (try dsimp only); omega), (by (try dsimp only); omega), (by (try dsimp only); omega), (by (try dsimp only); omega), (by (try dsimp only); omega), (by (try dsimp only); omega), (by (try dsimp only); omega), (by (try dsimp only); omega), (by (try dsimp only); omega), (by (try dsimp only); omega), trivial⟩
          · intro j9 q53
            obtain ⟨p54, p55, p56, p57, p58, p59, p60, p61, p62, p63, -⟩ := q53
            refine EvP.sel (fun c64 => ?_) (fun c64 => ?_)
            · exact EvP.some trivial
            · refine EvP.ite (fun c65 => ?_) (fun c65 => ?_)
              · have f66 := i64w (n := (4611686018427387903 - (j9.2.1.2.2.2.2.2.1.size : Int))) (by omega) (by omega)
                exact EvP.some trivial
              · refine EvP.ite (fun c67 => ?_) (fun c67 => ?_)
                · have f68 := i64w (n := (4611686018427387903 - (j9.2.1.2.2.2.2.2.1.size : Int))) (by omega) (by omega)
                  exact EvP.some trivial
                · refine EvP.ite (fun c69 => ?_) (fun c69 => ?_)
                  · refine EvP.ite (fun c70 => ?_) (fun c70 => ?_)
                    · exact EvP.some trivial
                    · exact EvP.some trivial
                  · exact EvP.some trivial

end Go.Proofs.Ytbfkfhadcmpndaa.CFnFrames
