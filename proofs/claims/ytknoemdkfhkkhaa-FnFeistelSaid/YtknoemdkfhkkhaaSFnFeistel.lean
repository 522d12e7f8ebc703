/- What is drawn: it comes to an end, and how large it is. Written by a program of this session; Lean checks it. -/
import Derived.Test.YtknoemdkfhkkhaaQCuFnFeistel
import Derived.Test.YtknoemdkfhkkhaaQCuAmongFnFeistel
set_option linter.unusedVariables false
set_option maxRecDepth 10000
namespace Go.Proofs.Ytknoemdkfhkkhaa.CFnFeistel
open Go Go.Proofs Go.Proofs.YtknoemdkfhkkhaaPM Go.Proofs.Ytknoemdkfhkkhaa.Q Go.Proofs.Ytknoemdkfhkkhaa.GFnFeistel

theorem spec_l1Cur_block_s {b : Int} {p0_0 : (List Int)} {p0_1 : Int} {p0_2 : Int} (h0 : ∀ y ∈ p0_0, 0 ≤ y ∧ y ≤ 255) (h1 : 0 ≤ p0_1) (h2 : p0_1 ≤ b) (hb : b ≤ 4611686018423999996) : EvP (fun N => spec_l1Cur_block N p0_0 p0_1 p0_2) (fun r => (r.1.1.size : Int) ≤ 17 ∧ (∀ y ∈ r.2.1.1, 0 ≤ y ∧ y ≤ 255) ∧ 0 ≤ r.2.1.2.1 ∧ r.2.1.2.1 ≤ (b + 38) ∧ True) := by
  refine EvP.of (fun N => spec_l1Cur_block.eq N _ _ _) ?_
  refine EvP.andK (one_s (b := b) h0 (by omega) (by omega) (by omega)) ?_
  intro u1 q1
  obtain ⟨p2, p3, p4, -⟩ := q1
  refine EvP.sel (fun c5 => ?_) (fun c5 => ?_)
  · have f6 : ([0, 15, 17] : List Int).length = 3 := rfl
    refine EvP.andK (among_s (b := (b + 2)) (P := fun y => 0 ≤ y ∧ y ≤ 17) (all_cons ⟨(by (try dsimp only); omega), (by (try dsimp only); omega)⟩ (all_cons ⟨(by (try dsimp only); omega), (by (try dsimp only); omega)⟩ (all_cons ⟨(by (try dsimp only); omega), (by (try dsimp only); omega)⟩ all_nil))) (by decide) p2 (by omega) (by omega) (by omega)) ?_
    intro u2 q7
    obtain ⟨q8, q9⟩ := q7
    obtain ⟨p10, p11⟩ := q8
    obtain ⟨p12, p13, p14, -⟩ := q9
    refine EvP.andK (sized_s (b := (b + 4)) (n := u2.1.1) (m := 17) p12 (by omega) (by omega) (by decide) (by omega) (by omega) (by omega)) ?_
    intro u3 q15
    obtain ⟨p16, p17, p18, p19, p20, -⟩ := q15
    have f21 := strL_size u3.2.2.1
    exact EvP.some ⟨(by (try dsimp only); omega), p16, (by (try dsimp only); omega), (by (try dsimp only); omega), trivial⟩
  · refine EvP.andK (one_s (b := (b + 2)) p2 (by omega) (by omega) (by omega)) ?_
    intro u4 q22
    obtain ⟨p23, p24, p25, -⟩ := q22
    refine EvP.sel (fun c26 => ?_) (fun c26 => ?_)
    · have f27 : (List.replicate 16 (0 : Int)).length = _ := List.length_replicate
      have f28 := strL_size (List.replicate 16 (0 : Int))
      exact EvP.some ⟨(by (try dsimp only); omega), p23, (by (try dsimp only); omega), (by (try dsimp only); omega), trivial⟩
    · refine EvP.andK (sized_s (b := (b + 4)) (n := 16) (m := 16) p23 (by omega) (by omega) (by decide) (by omega) (by omega) (by omega)) ?_
      intro u5 q29
      obtain ⟨p30, p31, p32, p33, p34, -⟩ := q29
      have f35 := strL_size u5.2.2.1
      exact EvP.some ⟨(by (try dsimp only); omega), p30, (by (try dsimp only); omega), (by (try dsimp only); omega), trivial⟩

theorem spec_DrawFourPasses_s {code : (List Int)} (h0 : ∀ y ∈ code, 0 ≤ y ∧ y ≤ 255) : EvP (fun N => spec_DrawFourPasses N code) (fun r => (r.1.1.size : Int) ≤ 17 ∧ (r.1.2.1.size : Int) ≤ 20 ∧ True) := by
  refine EvP.of (fun N => spec_DrawFourPasses.eq N _) ?_
  refine EvP.andK (pick_s (b := 0) (n := 15) (m := 14) h0 (by omega) (by omega) (by omega) (by omega) (by omega)) ?_
  intro u1 q1
  obtain ⟨q2, q3⟩ := q1
  obtain ⟨p4, p5, p6, p7⟩ := q2
  obtain ⟨p8, p9, p10, -⟩ := q3
  refine EvP.andK (Q := fun r => 0 ≤ r.1.2.1 ∧ r.1.2.1 ≤ 20 ∧ (∀ y ∈ r.2.1.1, 0 ≤ y ∧ y ≤ 255) ∧ 0 ≤ r.2.1.2.1 ∧ r.2.1.2.1 ≤ 6 ∧ True) ?_ ?_
  · refine EvP.andK (one_s (b := 2) p8 (by omega) (by omega) (by omega)) ?_
    intro u2 q11
    obtain ⟨p12, p13, p14, -⟩ := q11
    refine EvP.sel (fun c15 => ?_) (fun c15 => ?_)
    · have f16 : ([0, 4, 20] : List Int).length = 3 := rfl
      refine EvP.andK (among_s (b := 4) (P := fun y => 0 ≤ y ∧ y ≤ 20) (all_cons ⟨(by (try dsimp only); omega), (by (try dsimp only); omega)⟩ (all_cons ⟨(by (try dsimp only); omega), (by (try dsimp only); omega)⟩ (all_cons ⟨(by (try dsimp only); omega), (by (try dsimp only); omega)⟩ all_nil))) (by decide) p12 (by omega) (by omega) (by omega)) ?_
      intro u3 q17
      obtain ⟨q18, q19⟩ := q17
      obtain ⟨p20, p21⟩ := q18
      obtain ⟨p22, p23, p24, -⟩ := q19
      exact EvP.some ⟨(by (try dsimp only); omega), (by (try dsimp only); omega), p22, (by (try dsimp only); omega), (by (try dsimp only); omega), trivial⟩
    · have f25 := i64w (n := (5 + u1.1.1)) (by omega) (by omega)
      exact EvP.some ⟨(by (try dsimp only); omega), (by (try dsimp only); omega), p12, (by (try dsimp only); omega), (by (try dsimp only); omega), trivial⟩
  · intro j4 q26
    obtain ⟨p27, p28, p29, p30, p31, -⟩ := q26
    refine EvP.andK (spec_l1Cur_block_s (b := 6) p29 (by omega) (by omega) (by omega)) ?_
    intro u5 q32
    obtain ⟨p33, p34, p35, p36, -⟩ := q32
    refine EvP.andK (sized_s (b := 44) (n := j4.1.2.1) (m := 20) p34 (by omega) (by omega) (by decide) (by omega) (by omega) (by omega)) ?_
    intro u6 q37
    obtain ⟨p38, p39, p40, p41, p42, -⟩ := q37
    have f43 := strL_size u6.2.2.1
    exact EvP.some ⟨(by (try dsimp only); omega), (by (try dsimp only); omega), trivial⟩

end Go.Proofs.Ytknoemdkfhkkhaa.CFnFeistel
