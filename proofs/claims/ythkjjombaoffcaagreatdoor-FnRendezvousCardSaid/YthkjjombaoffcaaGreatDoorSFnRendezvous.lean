/- What is drawn: it comes to an end, and how large it is. Written by a program of this session; Lean checks it. -/
import Derived.Test.YthkjjombaoffcaaGreatDoorQCuFnRendezvous
import Derived.Test.YthkjjombaoffcaaGreatDoorQCuAmongFnRendezvous
import Derived.Test.YthkjjombaoffcaaGreatDoorQCuOfFnRendezvous
set_option linter.unusedVariables false
set_option maxRecDepth 10000
namespace Go.Proofs.YthkjjombaoffcaaGreatDoor.CFnRendezvous
open Go Go.Proofs Go.Proofs.YthkjjombaoffcaaGreatDoorPM Go.Proofs.YthkjjombaoffcaaGreatDoor.Q Go.Proofs.YthkjjombaoffcaaGreatDoor.GFnRendezvous

theorem spec_l1Cur_short_s {b : Int} {p0_0 : (List Int)} {p0_1 : Int} {p0_2 : Int} (h0 : ∀ y ∈ p0_0, 0 ≤ y ∧ y ≤ 255) (h1 : 0 ≤ p0_1) (h2 : p0_1 ≤ b) (hb : b ≤ 4611686018423999994) : EvP (fun N => spec_l1Cur_short N p0_0 p0_1 p0_2) (fun r => (r.1.1.size : Int) ≤ 39 ∧ (∀ y ∈ r.2.1.1, 0 ≤ y ∧ y ≤ 255) ∧ 0 ≤ r.2.1.2.1 ∧ r.2.1.2.1 ≤ (b + 84) ∧ True) := by
  refine EvP.of (fun N => spec_l1Cur_short.eq N _ _ _) ?_
  refine EvP.andK (pick_s (b := b) (n := 40) (m := 39) h0 (by omega) (by omega) (by omega) (by omega) (by omega)) ?_
  intro u1 q1
  obtain ⟨q2, q3⟩ := q1
  obtain ⟨p4, p5, p6, p7⟩ := q2
  obtain ⟨p8, p9, p10, -⟩ := q3
  refine EvP.andK (Q := fun r => 0 ≤ r.1.2.1 ∧ r.1.2.1 ≤ 39 ∧ (∀ y ∈ r.2.1.1, 0 ≤ y ∧ y ≤ 255) ∧ 0 ≤ r.2.1.2.1 ∧ r.2.1.2.1 ≤ (b + 6) ∧ True) ?_ ?_
  · refine EvP.andK (one_s (b := (b + 2)) p8 (by omega) (by omega) (by omega)) ?_
    intro u2 q11
    obtain ⟨p12, p13, p14, -⟩ := q11
    refine EvP.sel (fun c15 => ?_) (fun c15 => ?_)
    · have f16 : ([0, 15, 16, 17, 32] : List Int).length = 5 := rfl
      refine EvP.andK (among_s (b := (b + 4)) (P := fun y => 0 ≤ y ∧ y ≤ 32) (all_cons ⟨(by (try dsimp only); omega), (by (try dsimp only); omega)⟩ (all_cons ⟨(by (try dsimp only); omega), (by (try dsimp only); omega)⟩ (all_cons ⟨(by (try dsimp only); omega), (by (try dsimp only); omega)⟩ (all_cons ⟨(by (try dsimp only); omega), (by (try dsimp only); omega)⟩ (all_cons ⟨(by (try dsimp only); omega), (by (try dsimp only); omega)⟩ all_nil))))) (by decide) p12 (by omega) (by omega) (by omega)) ?_
      intro u3 q17
      obtain ⟨q18, q19⟩ := q17
      obtain ⟨p20, p21⟩ := q18
      obtain ⟨p22, p23, p24, -⟩ := q19
      exact EvP.some ⟨(by (try dsimp only); omega), (by (try dsimp only); omega), p22, (by (try dsimp only); omega), (by (try dsimp only); omega), trivial⟩
    · exact EvP.some ⟨(by (try dsimp only); omega), (by (try dsimp only); omega), p12, (by (try dsimp only); omega), (by (try dsimp only); omega), trivial⟩
  · intro j4 q25
    obtain ⟨p26, p27, p28, p29, p30, -⟩ := q25
    refine EvP.andK (sized_s (b := (b + 6)) (n := j4.1.2.1) (m := 39) p28 (by omega) (by omega) (by decide) (by omega) (by omega) (by omega)) ?_
    intro u5 q31
    obtain ⟨p32, p33, p34, p35, p36, -⟩ := q31
    have f37 := strL_size u5.2.2.1
    exact EvP.some ⟨(by (try dsimp only); omega), p32, (by (try dsimp only); omega), (by (try dsimp only); omega), trivial⟩

end Go.Proofs.YthkjjombaoffcaaGreatDoor.CFnRendezvous
