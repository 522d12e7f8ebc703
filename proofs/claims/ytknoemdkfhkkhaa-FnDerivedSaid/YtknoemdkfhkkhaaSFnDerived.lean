/- What is drawn: it comes to an end, and how large it is. Written by a program of this session; Lean checks it. -/
import Derived.Test.YtknoemdkfhkkhaaQCuFnDerived
import Derived.Test.YtknoemdkfhkkhaaQCuAmongFnDerived
import Derived.Test.YtknoemdkfhkkhaaQCuOfFnDerived
set_option linter.unusedVariables false
set_option maxRecDepth 10000
namespace Go.Proofs.Ytknoemdkfhkkhaa.CFnDerived
open Go Go.Proofs Go.Proofs.YtknoemdkfhkkhaaPM Go.Proofs.Ytknoemdkfhkkhaa.Q Go.Proofs.Ytknoemdkfhkkhaa.GFnDerived

theorem spec_l1Cur_hashed_s {b : Int} {p0_0 : (List Int)} {p0_1 : Int} {p0_2 : Int} (h0 : ∀ y ∈ p0_0, 0 ≤ y ∧ y ≤ 255) (h1 : 0 ≤ p0_1) (h2 : p0_1 ≤ b) (hb : b ≤ 4611686018423999994) : EvP (fun N => spec_l1Cur_hashed N p0_0 p0_1 p0_2) (fun r => (r.1.1.size : Int) ≤ 120 ∧ (∀ y ∈ r.2.1.1, 0 ≤ y ∧ y ≤ 255) ∧ 0 ≤ r.2.1.2.1 ∧ r.2.1.2.1 ≤ (b + 246) ∧ True) := by
  refine EvP.of (fun N => spec_l1Cur_hashed.eq N _ _ _) ?_
  refine EvP.andK (pick_s (b := b) (n := 70) (m := 69) h0 (by omega) (by omega) (by omega) (by omega) (by omega)) ?_
  intro u1 q1
  obtain ⟨q2, q3⟩ := q1
  obtain ⟨p4, p5, p6, p7⟩ := q2
  obtain ⟨p8, p9, p10, -⟩ := q3
  refine EvP.andK (Q := fun r => 0 ≤ r.1.2.1 ∧ r.1.2.1 ≤ 120 ∧ (∀ y ∈ r.2.1.1, 0 ≤ y ∧ y ≤ 255) ∧ 0 ≤ r.2.1.2.1 ∧ r.2.1.2.1 ≤ (b + 6) ∧ True) ?_ ?_
  · refine EvP.andK (one_s (b := (b + 2)) p8 (by omega) (by omega) (by omega)) ?_
    intro u2 q11
    obtain ⟨p12, p13, p14, -⟩ := q11
    refine EvP.sel (fun c15 => ?_) (fun c15 => ?_)
    · have f16 : ([0, 55, 56, 63, 64, 65, 119, 120] : List Int).length = 8 := rfl
      refine EvP.andK (among_s (b := (b + 4)) (P := fun y => 0 ≤ y ∧ y ≤ 120) (all_cons ⟨(by (try dsimp only); omega), (by (try dsimp only); omega)⟩ (all_cons ⟨(by (try dsimp only); omega), (by (try dsimp only); omega)⟩ (all_cons ⟨(by (try dsimp only); omega), (by (try dsimp only); omega)⟩ (all_cons ⟨(by (try dsimp only); omega), (by (try dsimp only); omega)⟩ (all_cons ⟨(by (try dsimp only); omega), (by (try dsimp only); omega)⟩ (all_cons ⟨(by (try dsimp only); omega), (by (try dsimp only); omega)⟩ (all_cons ⟨(by (try dsimp only); omega), (by (try dsimp only); omega)⟩ (all_cons ⟨(by (try dsimp only); omega), (by (try dsimp only); omega)⟩ all_nil)))))))) (by decide) p12 (by omega) (by omega) (by omega)) ?_
      intro u3 q17
      obtain ⟨q18, q19⟩ := q17
      obtain ⟨p20, p21⟩ := q18
      obtain ⟨p22, p23, p24, -⟩ := q19
      exact EvP.some ⟨(by (try dsimp only); omega), (by (try dsimp only); omega), p22, (by (try dsimp only); omega), (by (try dsimp only); omega), trivial⟩
    · exact EvP.some ⟨(by (try dsimp only); omega), (by (try dsimp only); omega), p12, (by (try dsimp only); omega), (by (try dsimp only); omega), trivial⟩
  · intro j4 q25
    obtain ⟨p26, p27, p28, p29, p30, -⟩ := q25
    refine EvP.andK (sized_s (b := (b + 6)) (n := j4.1.2.1) (m := 120) p28 (by omega) (by omega) (by decide) (by omega) (by omega) (by omega)) ?_
    intro u5 q31
    obtain ⟨p32, p33, p34, p35, p36, -⟩ := q31
    have f37 := strL_size u5.2.2.1
    exact EvP.some ⟨(by (try dsimp only); omega), p32, (by (try dsimp only); omega), (by (try dsimp only); omega), trivial⟩

theorem spec_DrawHkdfExpand_s {code : (List Int)} (h0 : ∀ y ∈ code, 0 ≤ y ∧ y ≤ 255) : EvP (fun N => spec_DrawHkdfExpand N code) (fun r => (r.1.1.size : Int) ≤ 120 ∧ (r.1.2.1.size : Int) ≤ 4 ∧ (-1) ≤ r.1.2.2.1 ∧ r.1.2.2.1 ≤ 256 ∧ True) := by
  refine EvP.of (fun N => spec_DrawHkdfExpand.eq N _) ?_
  refine EvP.andK (pick_s (b := 0) (n := 80) (m := 79) h0 (by omega) (by omega) (by omega) (by omega) (by omega)) ?_
  intro u1 q1
  obtain ⟨q2, q3⟩ := q1
  obtain ⟨p4, p5, p6, p7⟩ := q2
  obtain ⟨p8, p9, p10, -⟩ := q3
  refine EvP.andK (Q := fun r => (-1) ≤ r.1.2.1 ∧ r.1.2.1 ≤ 256 ∧ (∀ y ∈ r.2.1.1, 0 ≤ y ∧ y ≤ 255) ∧ 0 ≤ r.2.1.2.1 ∧ r.2.1.2.1 ≤ 6 ∧ True) ?_ ?_
  · refine EvP.andK (one_s (b := 2) p8 (by omega) (by omega) (by omega)) ?_
    intro u2 q11
    obtain ⟨p12, p13, p14, -⟩ := q11
    refine EvP.sel (fun c15 => ?_) (fun c15 => ?_)
    · have f16 : ([(-1), 0, 32, 33, 255, 256] : List Int).length = 6 := rfl
      refine EvP.andK (among_s (b := 4) (P := fun y => (-1) ≤ y ∧ y ≤ 256) (all_cons ⟨(by (try dsimp only); omega), (by (try dsimp only); omega)⟩ (all_cons ⟨(by (try dsimp only); omega), (by (try dsimp only); omega)⟩ (all_cons ⟨(by (try dsimp only); omega), (by (try dsimp only); omega)⟩ (all_cons ⟨(by (try dsimp only); omega), (by (try dsimp only); omega)⟩ (all_cons ⟨(by (try dsimp only); omega), (by (try dsimp only); omega)⟩ (all_cons ⟨(by (try dsimp only); omega), (by (try dsimp only); omega)⟩ all_nil)))))) (by decide) p12 (by omega) (by omega) (by omega)) ?_
      intro u3 q17
      obtain ⟨q18, q19⟩ := q17
      obtain ⟨p20, p21⟩ := q18
      obtain ⟨p22, p23, p24, -⟩ := q19
      exact EvP.some ⟨(by (try dsimp only); omega), (by (try dsimp only); omega), p22, (by (try dsimp only); omega), (by (try dsimp only); omega), trivial⟩
    · exact EvP.some ⟨(by (try dsimp only); omega), (by (try dsimp only); omega), p12, (by (try dsimp only); omega), (by (try dsimp only); omega), trivial⟩
  · intro j4 q25
    obtain ⟨p26, p27, p28, p29, p30, -⟩ := q25
    refine EvP.andK (spec_l1Cur_hashed_s (b := 6) p28 (by omega) (by omega) (by omega)) ?_
    intro u5 q31
    obtain ⟨p32, p33, p34, p35, -⟩ := q31
    have f36 : ([(⟨#[]⟩ : ByteArray), (⟨#[105, 110, 102, 111]⟩ : ByteArray), (⟨#[97]⟩ : ByteArray)] : List ByteArray).length = 3 := rfl
    have f37 : (⟨#[]⟩ : ByteArray).size = 0 := rfl
    have f38 : (⟨#[105, 110, 102, 111]⟩ : ByteArray).size = 4 := rfl
    have f39 : (⟨#[97]⟩ : ByteArray).size = 1 := rfl
    refine EvP.andK (of_s (b := 252) (P := fun y => (y.size : Int) ≤ 4) (all_cons (by (try dsimp only); omega) (all_cons (by (try dsimp only); omega) (all_cons (by (try dsimp only); omega) all_nil))) (by decide) p33 (by omega) (by omega) (by omega)) ?_
    intro u6 q40
    obtain ⟨q41, q42⟩ := q40
    obtain ⟨p44, p45, p46, -⟩ := q42
    exact EvP.some ⟨(by (try dsimp only); omega), (by (try dsimp only); omega), (by (try dsimp only); omega), (by (try dsimp only); omega), trivial⟩

theorem spec_l1Cur_id_s {b : Int} {p0_0 : (List Int)} {p0_1 : Int} {p0_2 : Int} (h0 : ∀ y ∈ p0_0, 0 ≤ y ∧ y ≤ 255) (h1 : 0 ≤ p0_1) (h2 : p0_1 ≤ b) (hb : b ≤ 4611686018423999994) : EvP (fun N => spec_l1Cur_id N p0_0 p0_1 p0_2) (fun r => (r.1.1.size : Int) ≤ 21 ∧ (∀ y ∈ r.2.1.1, 0 ≤ y ∧ y ≤ 255) ∧ 0 ≤ r.2.1.2.1 ∧ r.2.1.2.1 ≤ (b + 48) ∧ True) := by
  refine EvP.of (fun N => spec_l1Cur_id.eq N _ _ _) ?_
  refine EvP.andK (pick_s (b := b) (n := 10) (m := 9) h0 (by omega) (by omega) (by omega) (by omega) (by omega)) ?_
  intro u1 q1
  obtain ⟨q2, q3⟩ := q1
  obtain ⟨p4, p5, p6, p7⟩ := q2
  obtain ⟨p8, p9, p10, -⟩ := q3
  refine EvP.andK (Q := fun r => 0 ≤ r.1.2.1 ∧ r.1.2.1 ≤ 21 ∧ (∀ y ∈ r.2.1.1, 0 ≤ y ∧ y ≤ 255) ∧ 0 ≤ r.2.1.2.1 ∧ r.2.1.2.1 ≤ (b + 6) ∧ True) ?_ ?_
  · refine EvP.andK (one_s (b := (b + 2)) p8 (by omega) (by omega) (by omega)) ?_
    intro u2 q11
    obtain ⟨p12, p13, p14, -⟩ := q11
    refine EvP.sel (fun c15 => ?_) (fun c15 => ?_)
    · have f16 : ([20, 21, 0] : List Int).length = 3 := rfl
      refine EvP.andK (among_s (b := (b + 4)) (P := fun y => 0 ≤ y ∧ y ≤ 21) (all_cons ⟨(by (try dsimp only); omega), (by (try dsimp only); omega)⟩ (all_cons ⟨(by (try dsimp only); omega), (by (try dsimp only); omega)⟩ (all_cons ⟨(by (try dsimp only); omega), (by (try dsimp only); omega)⟩ all_nil))) (by decide) p12 (by omega) (by omega) (by omega)) ?_
      intro u3 q17
      obtain ⟨q18, q19⟩ := q17
      obtain ⟨p20, p21⟩ := q18
      obtain ⟨p22, p23, p24, -⟩ := q19
      exact EvP.some ⟨(by (try dsimp only); omega), (by (try dsimp only); omega), p22, (by (try dsimp only); omega), (by (try dsimp only); omega), trivial⟩
    · exact EvP.some ⟨(by (try dsimp only); omega), (by (try dsimp only); omega), p12, (by (try dsimp only); omega), (by (try dsimp only); omega), trivial⟩
  · intro j4 q25
    obtain ⟨p26, p27, p28, p29, p30, -⟩ := q25
    refine EvP.andK (sized_s (b := (b + 6)) (n := j4.1.2.1) (m := 21) p28 (by omega) (by omega) (by decide) (by omega) (by omega) (by omega)) ?_
    intro u5 q31
    obtain ⟨p32, p33, p34, p35, p36, -⟩ := q31
    have f37 := strL_size u5.2.2.1
    exact EvP.some ⟨(by (try dsimp only); omega), p32, (by (try dsimp only); omega), (by (try dsimp only); omega), trivial⟩

theorem spec_DrawInitialSecrets_s {code : (List Int)} (h0 : ∀ y ∈ code, 0 ≤ y ∧ y ≤ 255) : EvP (fun N => spec_DrawInitialSecrets N code) (fun r => (r.1.1.size : Int) ≤ 21 ∧ True) := by
  refine EvP.of (fun N => spec_DrawInitialSecrets.eq N _) ?_
  refine EvP.andK (spec_l1Cur_id_s (b := 0) h0 (by omega) (by omega) (by omega)) ?_
  intro u1 q1
  obtain ⟨p2, p3, p4, p5, -⟩ := q1
  exact EvP.some ⟨(by (try dsimp only); omega), trivial⟩

end Go.Proofs.Ytknoemdkfhkkhaa.CFnDerived
