/- What is drawn: it comes to an end, and how large it is. Written by a program of this session; Lean checks it. -/
import Derived.Test.YtknoemdkfhkkhaaQCuFnKeyed
import Derived.Test.YtknoemdkfhkkhaaQCuAmongFnKeyed
set_option linter.unusedVariables false
set_option maxRecDepth 10000
namespace Go.Proofs.Ytknoemdkfhkkhaa.CFnKeyed
open Go Go.Proofs Go.Proofs.YtknoemdkfhkkhaaPM Go.Proofs.Ytknoemdkfhkkhaa.Q Go.Proofs.Ytknoemdkfhkkhaa.GFnKeyed

theorem spec_l1Cur_hashed_s {b : Int} {p0_0 : (List Int)} {p0_1 : Int} {p0_2 : Int} (h0 : ∀ y ∈ p0_0, 0 ≤ y ∧ y ≤ 255) (h1 : 0 ≤ p0_1) (h2 : p0_1 ≤ b) (hb : b ≤ 4611686018423999994) : EvP (fun N => spec_l1Cur_hashed N p0_0 p0_1 p0_2) (fun r => (r.1.1.size : Int) ≤ 120 ∧ (∀ y ∈ r.2.1.1, 0 ≤ y ∧ y ≤ 255) ∧ 0 ≤ r.2.1.2.1 ∧ r.2.1.2.1 ≤ (b + 246) ∧ True) := by
  refine EvP.of (fun N => spec_l1Cur_hashed.eq N _ _ _) ?_
  refine EvP.andK (pick_s (b := b) (n := 70) (m := 69) h0 (by omega) (by omega) (by omega) (by omega) (by omega)) ?_
  intro u1 q1
  obtain ⟨q2, q3⟩ := q1
  obtain ⟨p4, p5, p6, p7⟩ := q2
  obtain ⟨p8, p9, p10, -⟩ := q3
  refine EvP.andK (Q := fun r => 0 ≤ r.1.2.1 ∧ r.1.2.1 ≤ 120 ∧ (∀ y ∈ r.2.1.1, 0 ≤ y ∧ y ≤ 255) ∧ 0 ≤ r.2.1.2.1 ∧ r.2.1.2.1 ≤ (b + 6) ∧ True) ?_ ?_
  · refine EvP.andK (one_s (b := (b + 2)) p8 (by omega) (by omega) (by omega)) ?_
    intro u2 q11
    obtain ⟨p12, p13, p14, -⟩ := q11
    refine EvP.sel (fun c15 => ?_) (fun c15 => ?_)
    · have f16 : ([0, 55, 56, 63, 64, 65, 119, 120] : List Int).length = 8 := rfl
      refine EvP.andK (among_s (b := (b + 4)) (P := fun y => 0 ≤ y ∧ y ≤ 120) (all_cons ⟨(by (try dsimp only); omega), (by (try dsimp only); omega)⟩ (all_cons ⟨(by (try dsimp only); omega), (by (try dsimp only); omega)⟩ (all_cons ⟨(by (try dsimp only); omega), (by (try dsimp only); omega)⟩ (all_cons ⟨(by (try dsimp only); omega), (by (try dsimp only); omega)⟩ (all_cons ⟨(by (try dsimp only); omega), (by (try dsimp only); omega)⟩ (all_cons ⟨(by (try dsimp only); omega), (by (try dsimp only); omega)⟩ (all_cons ⟨(by (try dsimp only); omega), (by (try dsimp only); omega)⟩ (all_cons ⟨(by (try dsimp only); omega), (by (try dsimp only); omega)⟩ all_nil)))))))) (by decide) p12 (by omega) (by omega) (by omega)) ?_
      intro u3 q17
      obtain ⟨q18, q19⟩ := q17
      obtain ⟨p20, p21⟩ := q18
      obtain ⟨p22, p23, p24, -⟩ := q19
      exact EvP.some ⟨(by (try dsimp only); omega), (by (try dsimp only); omega), p22, (by (try dsimp only); omega), (by (try dsimp only); omega), trivial⟩
    · exact EvP.some ⟨(by (try dsimp only); omega), (by (try dsimp only); omega), p12, (by (try dsimp only); omega), (by (try dsimp only); omega), trivial⟩
  · intro j4 q25
    obtain ⟨p26, p27, p28, p29, p30, -⟩ := q25
    refine EvP.andK (sized_s (b := (b + 6)) (n := j4.1.2.1) (m := 120) p28 (by omega) (by omega) (by decide) (by omega) (by omega) (by omega)) ?_
    intro u5 q31
    obtain ⟨p32, p33, p34, p35, p36, -⟩ := q31
    have f37 := strL_size u5.2.2.1
    exact EvP.some ⟨(by (try dsimp only); omega), p32, (by (try dsimp only); omega), (by (try dsimp only); omega), trivial⟩

theorem spec_DrawHmacSha_s {code : (List Int)} (h0 : ∀ y ∈ code, 0 ≤ y ∧ y ≤ 255) : EvP (fun N => spec_DrawHmacSha N code) (fun r => (r.1.1.size : Int) ≤ 2001 ∧ (r.1.2.1.size : Int) ≤ 120 ∧ True) := by
  refine EvP.of (fun N => spec_DrawHmacSha.eq N _) ?_
  refine EvP.andK (spec_l1Cur_hashed_s (b := 0) h0 (by omega) (by omega) (by omega)) ?_
  intro u1 q1
  obtain ⟨p2, p3, p4, p5, -⟩ := q1
  refine EvP.andK (Q := fun r => (r.1.2.1.size : Int) ≤ 2001 ∧ (∀ y ∈ r.2.1.1, 0 ≤ y ∧ y ≤ 255) ∧ 0 ≤ r.2.1.2.1 ∧ r.2.1.2.1 ≤ 250 ∧ True) ?_ ?_
  · refine EvP.andK (one_s (b := 246) p3 (by omega) (by omega) (by omega)) ?_
    intro u2 q6
    obtain ⟨p7, p8, p9, -⟩ := q6
    refine EvP.sel (fun c10 => ?_) (fun c10 => ?_)
    · refine EvP.andK (pick_s (b := 248) (n := 2) (m := 1) p7 (by omega) (by omega) (by omega) (by omega) (by omega)) ?_
      intro u3 q11
      obtain ⟨q12, q13⟩ := q11
      obtain ⟨p14, p15, p16, p17⟩ := q12
      obtain ⟨p18, p19, p20, -⟩ := q13
      have f21 := i64w (n := (2000 + u3.1.1)) (by omega) (by omega)
      refine EvP.chk (and_i (decide_eq_true (by omega)) (and_i (smallI_i (by omega) (by omega)) (decide_eq_true (by omega)))) ?_
      have f22 : (List.replicate (Int.toNat (IntKind.i64.wrap (2000 + u3.1.1))) (0 : Int)).length = _ := List.length_replicate
      have f23 := strL_size (List.replicate (Int.toNat (IntKind.i64.wrap (2000 + u3.1.1))) (0 : Int))
      exact EvP.some ⟨(by (try dsimp only); omega), p18, (by (try dsimp only); omega), (by (try dsimp only); omega), trivial⟩
    · exact EvP.some ⟨(by (try dsimp only); omega), p7, (by (try dsimp only); omega), (by (try dsimp only); omega), trivial⟩
  · intro j4 q24
    obtain ⟨p25, p26, p27, p28, -⟩ := q24
    refine EvP.andK (spec_l1Cur_hashed_s (b := 250) p26 (by omega) (by omega) (by omega)) ?_
    intro u5 q29
    obtain ⟨p30, p31, p32, p33, -⟩ := q29
    exact EvP.some ⟨(by (try dsimp only); omega), (by (try dsimp only); omega), trivial⟩

end Go.Proofs.Ytknoemdkfhkkhaa.CFnKeyed
