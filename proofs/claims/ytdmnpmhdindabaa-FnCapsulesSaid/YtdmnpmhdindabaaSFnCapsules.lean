/- What is drawn: it comes to an end, and how large it is. Written by a program of this session; Lean checks it. -/
import Derived.Test.YtdmnpmhdindabaaQCuFnCapsules
import Derived.Test.YtdmnpmhdindabaaQCuAmongFnCapsules
import Derived.Test.YtdmnpmhdindabaaQCuSpoiltFnCapsules
set_option linter.unusedVariables false
set_option maxRecDepth 10000
namespace Go.Proofs.Ytdmnpmhdindabaa.CFnCapsules
open Go Go.Proofs Go.Proofs.YtdmnpmhdindabaaPM Go.Proofs.Ytdmnpmhdindabaa.Q Go.Proofs.Ytdmnpmhdindabaa.GFnCapsules

theorem spec_l1Cur_short_s {b : Int} {p0_0 : (List Int)} {p0_1 : Int} {p0_2 : Int} (h0 : ∀ y ∈ p0_0, 0 ≤ y ∧ y ≤ 255) (h1 : 0 ≤ p0_1) (h2 : p0_1 ≤ b) (hb : b ≤ 4611686018423999994) : EvP (fun N => spec_l1Cur_short N p0_0 p0_1 p0_2) (fun r => (r.1.1.size : Int) ≤ 39 ∧ (∀ y ∈ r.2.1.1, 0 ≤ y ∧ y ≤ 255) ∧ 0 ≤ r.2.1.2.1 ∧ r.2.1.2.1 ≤ (b + 84) ∧ True) := by
  refine EvP.of (fun N => spec_l1Cur_short.eq N _ _ _) ?_
  refine EvP.andK (pick_s (b := b) (n := 40) (m := 39) h0 (by omega) (by omega) (by omega) (by omega) (by omega)) ?_
  intro u1 q1
  obtain ⟨q2, q3⟩ := q1
  obtain ⟨p4, p5, p6, p7⟩ := q2
  obtain ⟨p8, p9, p10, -⟩ := q3
  refine EvP.andK (Q := fun r => 0 ≤ r.1.2.1 ∧ r.1.2.1 ≤ 39 ∧ (∀ y ∈ r.2.1.1, 0 ≤ y ∧ y ≤ 255) ∧ 0 ≤ r.2.1.2.1 ∧ r.2.1.2.1 ≤ (b + 6) ∧ True) ?_ ?_
  · refine EvP.andK (one_s (b := (b + 2)) p8 (by omega) (by omega) (by omega)) ?_
    intro u2 q11
    obtain ⟨p12, p13, p14, -⟩ := q11
    refine EvP.sel (fun c15 => ?_) (fun c15 => ?_)
    · have f16 : ([0, 15, 16, 17, 32] : List Int).length = 5 := rfl
      refine EvP.andK (among_s (b := (b + 4)) (P := fun y => 0 ≤ y ∧ y ≤ 32) (all_cons ⟨(by (try dsimp only); omega), (by (try dsimp only); omega)⟩ (all_cons ⟨(by (try dsimp only); omega), (by (try dsimp only); omega)⟩ (all_cons ⟨(by (try dsimp only); omega), (by (try dsimp only); omega)⟩ (all_cons ⟨(by (try dsimp only); omega), (by (try dsimp only); omega)⟩ (all_cons ⟨(by (try dsimp only); omega), (by (try dsimp only); omega)⟩ all_nil))))) (by decide) p12 (by omega) (by omega) (by omega)) ?_
      intro u3 q17
      obtain ⟨q18, q19⟩ := q17
      obtain ⟨p20, p21⟩ := q18
      obtain ⟨p22, p23, p24, -⟩ := q19
      exact EvP.some ⟨(by (try dsimp only); omega), (by (try dsimp only); omega), p22, (by (try dsimp only); omega), (by (try dsimp only); omega), trivial⟩
    · exact EvP.some ⟨(by (try dsimp only); omega), (by (try dsimp only); omega), p12, (by (try dsimp only); omega), (by (try dsimp only); omega), trivial⟩
  · intro j4 q25
    obtain ⟨p26, p27, p28, p29, p30, -⟩ := q25
    refine EvP.andK (sized_s (b := (b + 6)) (n := j4.1.2.1) (m := 39) p28 (by omega) (by omega) (by decide) (by omega) (by omega) (by omega)) ?_
    intro u5 q31
    obtain ⟨p32, p33, p34, p35, p36, -⟩ := q31
    have f37 := strL_size u5.2.2.1
    exact EvP.some ⟨(by (try dsimp only); omega), p32, (by (try dsimp only); omega), (by (try dsimp only); omega), trivial⟩

theorem spec_l1Cur_capsules_l0_s {b : Int} (hb : b ≤ 4611686018423997202) (d : Nat) : ∀ (t : Int) (n : Int) (p0_01 : (List Int)) (p0_11 : Int) (p0_21 : Int) (p1 : (List (Int × ByteArray))), 0 ≤ t → t ≤ 31 → t + (n - 0) ≤ 31 → n - 0 ≤ (d : Int) → (-32) ≤ n → n ≤ 31 → (∀ y ∈ p0_01, 0 ≤ y ∧ y ≤ 255) → 0 ≤ p0_11 → p0_11 ≤ (b + 90 * t) → (p1.length : Int) ≤ t → (∀ y ∈ p1, (-1) ≤ y.1 ∧ y.1 ≤ 4611686018427387904 ∧ (y.2.size : Int) ≤ 201) → EvP (fun N => spec_l1Cur_capsules.l0 N n p0_01 p0_11 p0_21 p1) (fun r => (∀ y ∈ r.2.1.1, 0 ≤ y ∧ y ≤ 255) ∧ 0 ≤ r.2.1.2.1 ∧ r.2.1.2.1 ≤ (b + 2790) ∧ (r.2.2.1.length : Int) ≤ 31 ∧ (∀ y ∈ r.2.2.1, (-1) ≤ y.1 ∧ y.1 ≤ 4611686018427387904 ∧ (y.2.size : Int) ≤ 201) ∧ True) := by
  induction d with
  | zero =>
    intro t n p0_01 p0_11 p0_21 p1 t0 t1 t2 t3 h0 h1 h2 h3 h4 h5 h6
    refine EvP.step (fun N => spec_l1Cur_capsules.l0.eq N _ _ _ _ _) ?_
    refine EvP.ite (fun c1 => ?_) (fun c1 => ?_)
    · have f2 : ([0, 0, 1, 2, 41, 70000] : List Int).length = 6 := rfl
      refine EvP.andK (among_s (b := (b + 90 * t)) (P := fun y => 0 ≤ y ∧ y ≤ 70000) (all_cons ⟨(by (try dsimp only); omega), (by (try dsimp only); omega)⟩ (all_cons ⟨(by (try dsimp only); omega), (by (try dsimp only); omega)⟩ (all_cons ⟨(by (try dsimp only); omega), (by (try dsimp only); omega)⟩ (all_cons ⟨(by (try dsimp only); omega), (by (try dsimp only); omega)⟩ (all_cons ⟨(by (try dsimp only); omega), (by (try dsimp only); omega)⟩ (all_cons ⟨(by (try dsimp only); omega), (by (try dsimp only); omega)⟩ all_nil)))))) (by decide) h2 (by omega) (by omega) (by omega)) ?_
      intro u5 q3
      obtain ⟨q4, q5⟩ := q3
      obtain ⟨p6, p7⟩ := q4
      obtain ⟨p8, p9, p10, -⟩ := q5
      refine EvP.andK (spec_l1Cur_short_s (b := (b + 90 * t + 2)) p8 (by omega) (by omega) (by omega)) ?_
      intro u6 q11
      obtain ⟨p12, p13, p14, p15, -⟩ := q11
      refine EvP.andK (Q := fun r => (∀ y ∈ r.2.1.1, 0 ≤ y ∧ y ≤ 255) ∧ 0 ≤ r.2.1.2.1 ∧ r.2.1.2.1 ≤ (b + 90 * t + 90) ∧ (r.2.2.1.length : Int) ≤ t ∧ (∀ y ∈ r.2.2.1, (-1) ≤ y.1 ∧ y.1 ≤ 4611686018427387904 ∧ (y.2.size : Int) ≤ 201) ∧ (-1) ≤ r.2.2.2.1.1 ∧ r.2.2.2.1.1 ≤ 4611686018427387904 ∧ (r.2.2.2.1.2.1.size : Int) ≤ 201 ∧ True) ?_ ?_
      · refine EvP.andK (pick_s (b := (b + 90 * t + 86)) (n := 30) (m := 29) p13 (by omega) (by omega) (by omega) (by omega) (by omega)) ?_
        intro u7 q16
        obtain ⟨q17, q18⟩ := q16
        obtain ⟨p19, p20, p21, p22⟩ := q17
        obtain ⟨p23, p24, p25, -⟩ := q18
        refine EvP.ite (fun c26 => ?_) (fun c26 => ?_)
        · refine EvP.andK (pick_s (b := (b + 90 * t + 88)) (n := 2) (m := 1) p23 (by omega) (by omega) (by omega) (by omega) (by omega)) ?_
          intro u8 q27
          obtain ⟨q28, q29⟩ := q27
          obtain ⟨p30, p31, p32, p33⟩ := q28
          obtain ⟨p34, p35, p36, -⟩ := q29
          have f37 := i64w (n := (200 + u8.1.1)) (by omega) (by omega)
          refine EvP.chk (and_i (decide_eq_true (by omega)) (and_i (smallI_i (by omega) (by omega)) (decide_eq_true (by omega)))) ?_
          have f38 : (List.replicate (Int.toNat (IntKind.i64.wrap (200 + u8.1.1))) (0 : Int)).length = _ := List.length_replicate
          have f39 := strL_size (List.replicate (Int.toNat (IntKind.i64.wrap (200 + u8.1.1))) (0 : Int))
          exact EvP.some ⟨p34, (by (try dsimp only); omega), (by (try dsimp only); omega), (by (try dsimp only); omega), h6, (by (try dsimp only); omega), (by (try dsimp only); omega), (by (try dsimp only); omega), trivial⟩
        · refine EvP.ite (fun c40 => ?_) (fun c40 => ?_)
          · have f41 : ([(-1), 4611686018427387903, 4611686018427387904] : List Int).length = 3 := rfl
            refine EvP.andK (among_s (b := (b + 90 * t + 88)) (P := fun y => (-1) ≤ y ∧ y ≤ 4611686018427387904) (all_cons ⟨(by (try dsimp only); omega), (by (try dsimp only); omega)⟩ (all_cons ⟨(by (try dsimp only); omega), (by (try dsimp only); omega)⟩ (all_cons ⟨(by (try dsimp only); omega), (by (try dsimp only); omega)⟩ all_nil))) (by decide) p23 (by omega) (by omega) (by omega)) ?_
            intro u9 q42
            obtain ⟨q43, q44⟩ := q42
            obtain ⟨p45, p46⟩ := q43
            obtain ⟨p47, p48, p49, -⟩ := q44
            exact EvP.some ⟨p47, (by (try dsimp only); omega), (by (try dsimp only); omega), (by (try dsimp only); omega), h6, (by (try dsimp only); omega), (by (try dsimp only); omega), (by (try dsimp only); omega), trivial⟩
          · exact EvP.some ⟨p23, (by (try dsimp only); omega), (by (try dsimp only); omega), (by (try dsimp only); omega), h6, (by (try dsimp only); omega), (by (try dsimp only); omega), (by (try dsimp only); omega), trivial⟩
      · intro j10 q50
        obtain ⟨p51, p52, p53, p54, p55, p56, p57, p58, -⟩ := q50
        refine EvP.chk (decide_eq_true (by unfold most; omega)) ?_
        omega
    · exact EvP.some ⟨h2, (by (try dsimp only); omega), (by (try dsimp only); omega), (by (try dsimp only); omega), h6, trivial⟩
  | succ d ih =>
    intro t n p0_01 p0_11 p0_21 p1 t0 t1 t2 t3 h0 h1 h2 h3 h4 h5 h6
    refine EvP.step (fun N => spec_l1Cur_capsules.l0.eq N _ _ _ _ _) ?_
    refine EvP.ite (fun c1 => ?_) (fun c1 => ?_)
    · have f2 : ([0, 0, 1, 2, 41, 70000] : List Int).length = 6 := rfl
      refine EvP.andK (among_s (b := (b + 90 * t)) (P := fun y => 0 ≤ y ∧ y ≤ 70000) (all_cons ⟨(by (try dsimp only); omega), (by (try dsimp only); omega)⟩ (all_cons ⟨(by (try dsimp only); omega), (by (try dsimp only); omega)⟩ (all_cons ⟨(by (try dsimp only); omega), (by (try dsimp only); omega)⟩ (all_cons ⟨(by (try dsimp only); omega), (by (try dsimp only); omega)⟩ (all_cons ⟨(by (try dsimp only); omega), (by (try dsimp only); omega)⟩ (all_cons ⟨(by (try dsimp only); omega), (by (try dsimp only); omega)⟩ all_nil)))))) (by decide) h2 (by omega) (by omega) (by omega)) ?_
      intro u5 q3
      obtain ⟨q4, q5⟩ := q3
      obtain ⟨p6, p7⟩ := q4
      obtain ⟨p8, p9, p10, -⟩ := q5
      refine EvP.andK (spec_l1Cur_short_s (b := (b + 90 * t + 2)) p8 (by omega) (by omega) (by omega)) ?_
      intro u6 q11
      obtain ⟨p12, p13, p14, p15, -⟩ := q11
      refine EvP.andK (Q := fun r => (∀ y ∈ r.2.1.1, 0 ≤ y ∧ y ≤ 255) ∧ 0 ≤ r.2.1.2.1 ∧ r.2.1.2.1 ≤ (b + 90 * t + 90) ∧ (r.2.2.1.length : Int) ≤ t ∧ (∀ y ∈ r.2.2.1, (-1) ≤ y.1 ∧ y.1 ≤ 4611686018427387904 ∧ (y.2.size : Int) ≤ 201) ∧ (-1) ≤ r.2.2.2.1.1 ∧ r.2.2.2.1.1 ≤ 4611686018427387904 ∧ (r.2.2.2.1.2.1.size : Int) ≤ 201 ∧ True) ?_ ?_
      · refine EvP.andK (pick_s (b := (b + 90 * t + 86)) (n := 30) (m := 29) p13 (by omega) (by omega) (by omega) (by omega) (by omega)) ?_
        intro u7 q16
        obtain ⟨q17, q18⟩ := q16
        obtain ⟨p19, p20, p21, p22⟩ := q17
        obtain ⟨p23, p24, p25, -⟩ := q18
        refine EvP.ite (fun c26 => ?_) (fun c26 => ?_)
        · refine EvP.andK (pick_s (b := (b + 90 * t + 88)) (n := 2) (m := 1) p23 (by omega) (by omega) (by omega) (by omega) (by omega)) ?_
          intro u8 q27
          obtain ⟨q28, q29⟩ := q27
          obtain ⟨p30, p31, p32, p33⟩ := q28
          obtain ⟨p34, p35, p36, -⟩ := q29
          have f37 := i64w (n := (200 + u8.1.1)) (by omega) (by omega)
          refine EvP.chk (and_i (decide_eq_true (by omega)) (and_i (smallI_i (by omega) (by omega)) (decide_eq_true (by omega)))) ?_
          have f38 : (List.replicate (Int.toNat (IntKind.i64.wrap (200 + u8.1.1))) (0 : Int)).length = _ := List.length_replicate
          have f39 := strL_size (List.replicate (Int.toNat (IntKind.i64.wrap (200 + u8.1.1))) (0 : Int))
          exact EvP.some ⟨p34, (by (try dsimp only); omega), (by (try dsimp only); omega), (by (try dsimp only); omega), h6, (by (try dsimp only); omega), (by (try dsimp only); omega), (by (try dsimp only); omega), trivial⟩
        · refine EvP.ite (fun c40 => ?_) (fun c40 => ?_)
          · have f41 : ([(-1), 4611686018427387903, 4611686018427387904] : List Int).length = 3 := rfl
            refine EvP.andK (among_s (b := (b + 90 * t + 88)) (P := fun y => (-1) ≤ y ∧ y ≤ 4611686018427387904) (all_cons ⟨(by (try dsimp only); omega), (by (try dsimp only); omega)⟩ (all_cons ⟨(by (try dsimp only); omega), (by (try dsimp only); omega)⟩ (all_cons ⟨(by (try dsimp only); omega), (by (try dsimp only); omega)⟩ all_nil))) (by decide) p23 (by omega) (by omega) (by omega)) ?_
            intro u9 q42
            obtain ⟨q43, q44⟩ := q42
            obtain ⟨p45, p46⟩ := q43
            obtain ⟨p47, p48, p49, -⟩ := q44
            exact EvP.some ⟨p47, (by (try dsimp only); omega), (by (try dsimp only); omega), (by (try dsimp only); omega), h6, (by (try dsimp only); omega), (by (try dsimp only); omega), (by (try dsimp only); omega), trivial⟩
          · exact EvP.some ⟨p23, (by (try dsimp only); omega), (by (try dsimp only); omega), (by (try dsimp only); omega), h6, (by (try dsimp only); omega), (by (try dsimp only); omega), (by (try dsimp only); omega), trivial⟩
      · intro j10 q50
        obtain ⟨p51, p52, p53, p54, p55, p56, p57, p58, -⟩ := q50
        refine EvP.chk (decide_eq_true (by unfold most; omega)) ?_
        have f59 := i64w (n := (n - 1)) (by omega) (by omega)
        have f60 : ([(j10.2.2.2.1.1, j10.2.2.2.1.2.1)] : List (Int × ByteArray)).length = 1 := rfl
        have f61 : (j10.2.2.1 ++ [(j10.2.2.2.1.1, j10.2.2.2.1.2.1)]).length = j10.2.2.1.length + [(j10.2.2.2.1.1, j10.2.2.2.1.2.1)].length := List.length_append
        exact ih (t + 1) _ _ _ _ _ (by omega) (by omega) (by omega) (by omega) (by omega) (by omega) p51 (by omega) (by omega) (by omega) (all_app p55 (all_cons ⟨(by (try dsimp only); omega), (by (try dsimp only); omega), (by (try dsimp only); omega)⟩ all_nil))
    · exact EvP.some ⟨h2, (by (try dsimp only); omega), (by (try dsimp only); omega), (by (try dsimp only); omega), h6, trivial⟩

theorem spec_l1Cur_capsules_s {b : Int} {p0_0 : (List Int)} {p0_1 : Int} {p0_2 : Int} (h0 : ∀ y ∈ p0_0, 0 ≤ y ∧ y ≤ 255) (h1 : 0 ≤ p0_1) (h2 : p0_1 ≤ b) (hb : b ≤ 4611686018423997196) : EvP (fun N => spec_l1Cur_capsules N p0_0 p0_1 p0_2) (fun r => (∀ y ∈ r.2.1.1, 0 ≤ y ∧ y ≤ 255) ∧ 0 ≤ r.2.1.2.1 ∧ r.2.1.2.1 ≤ (b + 2796) ∧ (r.2.2.1.length : Int) ≤ 31 ∧ (∀ y ∈ r.2.2.1, (-1) ≤ y.1 ∧ y.1 ≤ 4611686018427387904 ∧ (y.2.size : Int) ≤ 201) ∧ True) := by
  refine EvP.of (fun N => spec_l1Cur_capsules.eq N _ _ _) ?_
  refine EvP.andK (pick_s (b := b) (n := 5) (m := 4) h0 (by omega) (by omega) (by omega) (by omega) (by omega)) ?_
  intro u1 q1
  obtain ⟨q2, q3⟩ := q1
  obtain ⟨p4, p5, p6, p7⟩ := q2
  obtain ⟨p8, p9, p10, -⟩ := q3
  refine EvP.andK (Q := fun r => 0 ≤ r.1.2.1 ∧ r.1.2.1 ≤ 31 ∧ (∀ y ∈ r.2.1.1, 0 ≤ y ∧ y ≤ 255) ∧ 0 ≤ r.2.1.2.1 ∧ r.2.1.2.1 ≤ (b + 6) ∧ True) ?_ ?_
  · refine EvP.andK (one_s (b := (b + 2)) p8 (by omega) (by omega) (by omega)) ?_
    intro u2 q11
    obtain ⟨p12, p13, p14, -⟩ := q11
    refine EvP.sel (fun c15 => ?_) (fun c15 => ?_)
    · refine EvP.andK (pick_s (b := (b + 4)) (n := 2) (m := 1) p12 (by omega) (by omega) (by omega) (by omega) (by omega)) ?_
      intro u3 q16
      obtain ⟨q17, q18⟩ := q16
      obtain ⟨p19, p20, p21, p22⟩ := q17
      obtain ⟨p23, p24, p25, -⟩ := q18
      have f26 := i64w (n := (30 + u3.1.1)) (by omega) (by omega)
      exact EvP.some ⟨(by (try dsimp only); omega), (by (try dsimp only); omega), p23, (by (try dsimp only); omega), (by (try dsimp only); omega), trivial⟩
    · exact EvP.some ⟨(by (try dsimp only); omega), (by (try dsimp only); omega), p12, (by (try dsimp only); omega), (by (try dsimp only); omega), trivial⟩
  · intro j4 q27
    obtain ⟨p28, p29, p30, p31, p32, -⟩ := q27
    have f33 : ([] : List (Int × ByteArray)).length = 0 := rfl
    refine EvP.andK (spec_l1Cur_capsules_l0_s (b := (b + 6)) (by omega) 31 0 _ _ _ _ _ (by omega) (by omega) (by omega) (by omega) (by omega) (by omega) p30 (by omega) (by omega) (by omega) all_nil) ?_
    intro l11 q34
    obtain ⟨p35, p36, p37, p38, p39, -⟩ := q34
    exact EvP.some ⟨p35, (by (try dsimp only); omega), (by (try dsimp only); omega), (by (try dsimp only); omega), p39, trivial⟩

theorem spec_DrawCapsulesBytes_s {code : (List Int)} (h0 : ∀ y ∈ code, 0 ≤ y ∧ y ≤ 255) : EvP (fun N => spec_DrawCapsulesBytes N code) (fun r => (r.2.1.length : Int) ≤ 31 ∧ (∀ y ∈ r.2.1, (-1) ≤ y.1 ∧ y.1 ≤ 4611686018427387904 ∧ (y.2.size : Int) ≤ 201) ∧ True) := by
  refine EvP.of (fun N => spec_DrawCapsulesBytes.eq N _) ?_
  refine EvP.andK (spec_l1Cur_capsules_s (b := 0) h0 (by omega) (by omega) (by omega)) ?_
  intro u1 q1
  obtain ⟨p2, p3, p4, p5, p6, -⟩ := q1
  exact EvP.some ⟨(by (try dsimp only); omega), p6, trivial⟩

theorem spec_l1In_s {n : Int} {lo : Int} {hi : Int} (h0 : (-1) ≤ n) (h1 : n ≤ 4611686018427387904) (h2 : 0 ≤ lo) (h3 : lo ≤ 0) (h4 : 4611686018427387903 ≤ hi) (h5 : hi ≤ 4611686018427387903) : EvP (fun N => spec_l1In N n lo hi) (fun r => True) := by
  refine EvP.of (fun N => spec_l1In.eq N _ _ _) ?_
  refine EvP.ite (fun c1 => ?_) (fun c1 => ?_)
  · exact EvP.some trivial
  · exact EvP.some trivial

theorem spec_l1Known_s {n : Int} (h0 : (-1) ≤ n) (h1 : n ≤ 4611686018427387904) : EvP (fun N => spec_l1Known N n) (fun r => True) := by
  refine EvP.of (fun N => spec_l1Known.eq N _) ?_
  refine EvP.andK (spec_l1In_s (by omega) (by omega) (by omega) (by omega) (by omega) (by omega)) ?_
  intro u1 q1
  exact EvP.some trivial

theorem spec_l16Good_l0_s (d : Nat) : ∀ (t : Int) (l1 : (List (Int × ByteArray))) (t5 : (List (Int × ByteArray))) (t6 : Int) (t7 : Int), 0 ≤ t → t ≤ 31 → t + (t6 - t7) ≤ 31 → t6 - t7 ≤ (d : Int) → (l1.length : Int) ≤ 31 → (∀ y ∈ l1, (-1) ≤ y.1 ∧ y.1 ≤ 4611686018427387904 ∧ (y.2.size : Int) ≤ 201) → (t5.length : Int) ≤ 31 → (∀ y ∈ t5, (-1) ≤ y.1 ∧ y.1 ≤ 4611686018427387904 ∧ (y.2.size : Int) ≤ 201) → 0 ≤ t6 → t6 ≤ 31 → 0 ≤ t7 → t7 ≤ 32 → t6 = (l1.length : Int) → t6 = (t5.length : Int) → EvP (fun N => spec_l16Good.l0 N l1 t5 t6 t7) (fun r => (∀ x, r = .inl x → True) ∧ (∀ x, r = .inr x → True)) := by
  induction d with
  | zero =>
    intro t l1 t5 t6 t7 t0 t1 t2 t3 h0 h1 h2 h3 h4 h5 h6 h7 e0 e1
    refine EvP.step (fun N => spec_l16Good.l0.eq N _ _ _ _) ?_
    refine EvP.ite (fun c1 => ?_) (fun c1 => ?_)
    · refine EvP.chk (and_i (decide_eq_true (by omega)) (decide_eq_true (by omega))) ?_
      refine EvP.andK (Q := fun r => (-1) ≤ r.2.1.1 ∧ r.2.1.1 ≤ 4611686018427387904 ∧ (r.2.1.2.1.size : Int) ≤ 201 ∧ True) ?_ ?_
      · have g2 := rdS_all ((.pair (.int .i64) .str)) (P := fun (y : (Int × ByteArray)) => (-1) ≤ y.1 ∧ y.1 ≤ 4611686018427387904 ∧ (y.2.size : Int) ≤ 201) h3 (Int.toNat t7) (by simp [Sh.dflt])
        obtain ⟨g3, g4, g5⟩ := g2
        refine EvP.andK (spec_l1Known_s (by omega) (by omega)) ?_
        intro u1 q6
        refine EvP.sel (fun c7 => ?_) (fun c7 => ?_)
        · exact EvP.some ⟨(by (try dsimp only); omega), (by (try dsimp only); omega), (by (try dsimp only); omega), trivial⟩
        · exact EvP.some ⟨(by (try dsimp only); omega), (by (try dsimp only); omega), (by (try dsimp only); omega), trivial⟩
      · intro j2 q8
        obtain ⟨p9, p10, p11, -⟩ := q8
        refine EvP.sel (fun c12 => ?_) (fun c12 => ?_)
        · exact EvP.some ⟨(fun x e => by cases e; exact trivial), (fun x e => by cases e)⟩
        · omega
    · exact EvP.some ⟨(fun x e => by cases e), (fun x e => by cases e; exact trivial)⟩
  | succ d ih =>
    intro t l1 t5 t6 t7 t0 t1 t2 t3 h0 h1 h2 h3 h4 h5 h6 h7 e0 e1
    refine EvP.step (fun N => spec_l16Good.l0.eq N _ _ _ _) ?_
    refine EvP.ite (fun c1 => ?_) (fun c1 => ?_)
    · refine EvP.chk (and_i (decide_eq_true (by omega)) (decide_eq_true (by omega))) ?_
      refine EvP.andK (Q := fun r => (-1) ≤ r.2.1.1 ∧ r.2.1.1 ≤ 4611686018427387904 ∧ (r.2.1.2.1.size : Int) ≤ 201 ∧ True) ?_ ?_
      · have g2 := rdS_all ((.pair (.int .i64) .str)) (P := fun (y : (Int × ByteArray)) => (-1) ≤ y.1 ∧ y.1 ≤ 4611686018427387904 ∧ (y.2.size : Int) ≤ 201) h3 (Int.toNat t7) (by simp [Sh.dflt])
        obtain ⟨g3, g4, g5⟩ := g2
        refine EvP.andK (spec_l1Known_s (by omega) (by omega)) ?_
        intro u1 q6
        refine EvP.sel (fun c7 => ?_) (fun c7 => ?_)
        · exact EvP.some ⟨(by (try dsimp only); omega), (by (try dsimp only); omega), (by (try dsimp only); omega), trivial⟩
        · exact EvP.some ⟨(by (try dsimp only); omega), (by (try dsimp only); omega), (by (try dsimp only); omega), trivial⟩
      · intro j2 q8
        obtain ⟨p9, p10, p11, -⟩ := q8
        refine EvP.sel (fun c12 => ?_) (fun c12 => ?_)
        · exact EvP.some ⟨(fun x e => by cases e; exact trivial), (fun x e => by cases e)⟩
        · have f13 := i64w (n := (t7 + 1)) (by omega) (by omega)
          exact ih (t + 1) _ _ _ _ (by omega) (by omega) (by omega) (by omega) (by omega) h1 (by omega) h3 (by omega) (by omega) (by omega) (by omega) (by omega) (by omega)
    · exact EvP.some ⟨(fun x e => by cases e), (fun x e => by cases e; exact trivial)⟩

theorem spec_l16Good_s {l : (List (Int × ByteArray))} (h0 : (l.length : Int) ≤ 31) (h1 : ∀ y ∈ l, (-1) ≤ y.1 ∧ y.1 ≤ 4611686018427387904 ∧ (y.2.size : Int) ≤ 201) : EvP (fun N => spec_l16Good N l) (fun r => True) := by
  refine EvP.of (fun N => spec_l16Good.eq N _) ?_
  refine EvP.andK (spec_l16Good_l0_s 31 0 _ _ _ _ (by omega) (by omega) (by omega) (by omega) (by omega) h1 (by omega) h1 (by omega) (by omega) (by omega) (by omega) (by omega) (by omega)) ?_
  intro l3 q1
  refine EvP.or (fun x4 e2 => ?_) (fun x5 e3 => ?_)
  · have r4 := q1.1 x4 (by rw [e2])
    exact EvP.some trivial
  · have r5 := q1.2 x5 (by rw [e3])
    exact EvP.some trivial

theorem spec_l1Size_s {n : Int} (h0 : (-1) ≤ n) (h1 : n ≤ 4611686018427387904) : EvP (fun N => spec_l1Size N n) (fun r => 1 ≤ r.1.1 ∧ r.1.1 ≤ 8 ∧ True) := by
  refine EvP.of (fun N => spec_l1Size.eq N _) ?_
  refine EvP.ite (fun c1 => ?_) (fun c1 => ?_)
  · exact EvP.some ⟨(by (try dsimp only); omega), (by (try dsimp only); omega), trivial⟩
  · refine EvP.ite (fun c2 => ?_) (fun c2 => ?_)
    · exact EvP.some ⟨(by (try dsimp only); omega), (by (try dsimp only); omega), trivial⟩
    · refine EvP.ite (fun c3 => ?_) (fun c3 => ?_)
      · exact EvP.some ⟨(by (try dsimp only); omega), (by (try dsimp only); omega), trivial⟩
      · exact EvP.some ⟨(by (try dsimp only); omega), (by (try dsimp only); omega), trivial⟩

theorem spec_l1Fixed_l0_s (d : Nat) : ∀ (t : Int) (n1 : Int) (k : Int) (p0 : (List Int)), 0 ≤ t → t ≤ 1 → t + (k - 0 + 1) ≤ 1 → k - 0 + 1 ≤ (d : Int) → (-1) ≤ n1 → n1 ≤ 4611686018427387904 → (-2) ≤ k → k ≤ 0 → (p0.length : Int) ≤ t → (∀ y ∈ p0, 0 ≤ y ∧ y ≤ 255) → EvP (fun N => spec_l1Fixed.l0 N n1 k p0) (fun r => (r.2.1.length : Int) ≤ 1 ∧ (∀ y ∈ r.2.1, 0 ≤ y ∧ y ≤ 255) ∧ True) := by
  induction d with
  | zero =>
    intro t n1 k p0 t0 t1 t2 t3 h0 h1 h2 h3 h4 h5
    refine EvP.step (fun N => spec_l1Fixed.l0.eq N _ _ _) ?_
    refine EvP.ite (fun c1 => ?_) (fun c1 => ?_)
    · have f2 := i64w (n := (8 * k)) (by omega) (by omega)
      have f3 := u64i (n := (IntKind.i64.wrap (8 * k))) (by omega) (by omega)
      refine EvP.chk (decide_eq_true (by omega)) ?_
      refine EvP.chk (decide_eq_true (by unfold most; omega)) ?_
      omega
    · exact EvP.some ⟨(by (try dsimp only); omega), h5, trivial⟩
  | succ d ih =>
    intro t n1 k p0 t0 t1 t2 t3 h0 h1 h2 h3 h4 h5
    refine EvP.step (fun N => spec_l1Fixed.l0.eq N _ _ _) ?_
    refine EvP.ite (fun c1 => ?_) (fun c1 => ?_)
    · have f2 := i64w (n := (8 * k)) (by omega) (by omega)
      have f3 := u64i (n := (IntKind.i64.wrap (8 * k))) (by omega) (by omega)
      refine EvP.chk (decide_eq_true (by omega)) ?_
      refine EvP.chk (decide_eq_true (by unfold most; omega)) ?_
      have f4 := i64w (n := (k - 1)) (by omega) (by omega)
      have f5 : ([(IntKind.u8.wrap (shrI .i64 n1 (IntKind.u64.wrap (IntKind.i64.wrap (8 * k)))))] : List Int).length = 1 := rfl
      have f6 := u8_range ((shrI .i64 n1 (IntKind.u64.wrap (IntKind.i64.wrap (8 * k)))))
      have f7 : (p0 ++ [(IntKind.u8.wrap (shrI .i64 n1 (IntKind.u64.wrap (IntKind.i64.wrap (8 * k)))))]).length = p0.length + [(IntKind.u8.wrap (shrI .i64 n1 (IntKind.u64.wrap (IntKind.i64.wrap (8 * k)))))].length := List.length_append
      exact ih (t + 1) _ _ _ (by omega) (by omega) (by omega) (by omega) (by omega) (by omega) (by omega) (by omega) (by omega) (all_app h5 (all_cons ⟨(by (try dsimp only); omega), (by (try dsimp only); omega)⟩ all_nil))
    · exact EvP.some ⟨(by (try dsimp only); omega), h5, trivial⟩

theorem spec_l1Fixed_s {n : Int} {many : Int} (h0 : (-1) ≤ n) (h1 : n ≤ 4611686018427387904) (h2 : 1 ≤ many) (h3 : many ≤ 1) : EvP (fun N => spec_l1Fixed N n many) (fun r => (r.1.1.size : Int) ≤ 1 ∧ True) := by
  refine EvP.of (fun N => spec_l1Fixed.eq N _ _) ?_
  have f1 := i64w (n := (many - 1)) (by omega) (by omega)
  have f2 : ([] : List Int).length = 0 := rfl
  refine EvP.andK (spec_l1Fixed_l0_s 1 0 _ _ _ (by omega) (by omega) (by omega) (by omega) (by omega) (by omega) (by omega) (by omega) (by omega) all_nil) ?_
  intro l1 q3
  obtain ⟨p4, p5, -⟩ := q3
  have f6 := strL_size l1.2.1
  exact EvP.some ⟨(by (try dsimp only); omega), trivial⟩

theorem spec_l1Fixed_l0_s2 (d : Nat) : ∀ (t : Int) (n1 : Int) (k : Int) (p0 : (List Int)), 0 ≤ t → t ≤ 2 → t + (k - 0 + 1) ≤ 2 → k - 0 + 1 ≤ (d : Int) → (-9223372036854775808) ≤ n1 → n1 ≤ 9223372036854775807 → (-2) ≤ k → k ≤ 1 → (p0.length : Int) ≤ t → (∀ y ∈ p0, 0 ≤ y ∧ y ≤ 255) → EvP (fun N => spec_l1Fixed.l0 N n1 k p0) (fun r => (r.2.1.length : Int) ≤ 2 ∧ (∀ y ∈ r.2.1, 0 ≤ y ∧ y ≤ 255) ∧ True) := by
  induction d with
  | zero =>
    intro t n1 k p0 t0 t1 t2 t3 h0 h1 h2 h3 h4 h5
    refine EvP.step (fun N => spec_l1Fixed.l0.eq N _ _ _) ?_
    refine EvP.ite (fun c1 => ?_) (fun c1 => ?_)
    · have f2 := i64w (n := (8 * k)) (by omega) (by omega)
      have f3 := u64i (n := (IntKind.i64.wrap (8 * k))) (by omega) (by omega)
      refine EvP.chk (decide_eq_true (by omega)) ?_
      refine EvP.chk (decide_eq_true (by unfold most; omega)) ?_
      omega
    · exact EvP.some ⟨(by (try dsimp only); omega), h5, trivial⟩
  | succ d ih =>
    intro t n1 k p0 t0 t1 t2 t3 h0 h1 h2 h3 h4 h5
    refine EvP.step (fun N => spec_l1Fixed.l0.eq N _ _ _) ?_
    refine EvP.ite (fun c1 => ?_) (fun c1 => ?_)
    · have f2 := i64w (n := (8 * k)) (by omega) (by omega)
      have f3 := u64i (n := (IntKind.i64.wrap (8 * k))) (by omega) (by omega)
      refine EvP.chk (decide_eq_true (by omega)) ?_
      refine EvP.chk (decide_eq_true (by unfold most; omega)) ?_
      have f4 := i64w (n := (k - 1)) (by omega) (by omega)
      have f5 : ([(IntKind.u8.wrap (shrI .i64 n1 (IntKind.u64.wrap (IntKind.i64.wrap (8 * k)))))] : List Int).length = 1 := rfl
      have f6 := u8_range ((shrI .i64 n1 (IntKind.u64.wrap (IntKind.i64.wrap (8 * k)))))
      have f7 : (p0 ++ [(IntKind.u8.wrap (shrI .i64 n1 (IntKind.u64.wrap (IntKind.i64.wrap (8 * k)))))]).length = p0.length + [(IntKind.u8.wrap (shrI .i64 n1 (IntKind.u64.wrap (IntKind.i64.wrap (8 * k)))))].length := List.length_append
      exact ih (t + 1) _ _ _ (by omega) (by omega) (by omega) (by omega) (by omega) (by omega) (by omega) (by omega) (by omega) (all_app h5 (all_cons ⟨(by (try dsimp only); omega), (by (try dsimp only); omega)⟩ all_nil))
    · exact EvP.some ⟨(by (try dsimp only); omega), h5, trivial⟩

theorem spec_l1Fixed_s2 {n : Int} {many : Int} (h0 : (-9223372036854775808) ≤ n) (h1 : n ≤ 9223372036854775807) (h2 : 2 ≤ many) (h3 : many ≤ 2) : EvP (fun N => spec_l1Fixed N n many) (fun r => (r.1.1.size : Int) ≤ 2 ∧ True) := by
  refine EvP.of (fun N => spec_l1Fixed.eq N _ _) ?_
  have f1 := i64w (n := (many - 1)) (by omega) (by omega)
  have f2 : ([] : List Int).length = 0 := rfl
  refine EvP.andK (spec_l1Fixed_l0_s2 2 0 _ _ _ (by omega) (by omega) (by omega) (by omega) (by omega) (by omega) (by omega) (by omega) (by omega) all_nil) ?_
  intro l1 q3
  obtain ⟨p4, p5, -⟩ := q3
  have f6 := strL_size l1.2.1
  exact EvP.some ⟨(by (try dsimp only); omega), trivial⟩

theorem spec_l1Fixed_l0_s3 (d : Nat) : ∀ (t : Int) (n1 : Int) (k : Int) (p0 : (List Int)), 0 ≤ t → t ≤ 4 → t + (k - 0 + 1) ≤ 4 → k - 0 + 1 ≤ (d : Int) → (-9223372036854775808) ≤ n1 → n1 ≤ 9223372036854775807 → (-2) ≤ k → k ≤ 3 → (p0.length : Int) ≤ t → (∀ y ∈ p0, 0 ≤ y ∧ y ≤ 255) → EvP (fun N => spec_l1Fixed.l0 N n1 k p0) (fun r => (r.2.1.length : Int) ≤ 4 ∧ (∀ y ∈ r.2.1, 0 ≤ y ∧ y ≤ 255) ∧ True) := by
  induction d with
  | zero =>
    intro t n1 k p0 t0 t1 t2 t3 h0 h1 h2 h3 h4 h5
    refine EvP.step (fun N => spec_l1Fixed.l0.eq N _ _ _) ?_
    refine EvP.ite (fun c1 => ?_) (fun c1 => ?_)
    · have f2 := i64w (n := (8 * k)) (by omega) (by omega)
      have f3 := u64i (n := (IntKind.i64.wrap (8 * k))) (by omega) (by omega)
      refine EvP.chk (decide_eq_true (by omega)) ?_
      refine EvP.chk (decide_eq_true (by unfold most; omega)) ?_
      omega
    · exact EvP.some ⟨(by (try dsimp only); omega), h5, trivial⟩
  | succ d ih =>
    intro t n1 k p0 t0 t1 t2 t3 h0 h1 h2 h3 h4 h5
    refine EvP.step (fun N => spec_l1Fixed.l0.eq N _ _ _) ?_
    refine EvP.ite (fun c1 => ?_) (fun c1 => ?_)
    · have f2 := i64w (n := (8 * k)) (by omega) (by omega)
      have f3 := u64i (n := (IntKind.i64.wrap (8 * k))) (by omega) (by omega)
      refine EvP.chk (decide_eq_true (by omega)) ?_
      refine EvP.chk (decide_eq_true (by unfold most; omega)) ?_
      have f4 := i64w (n := (k - 1)) (by omega) (by omega)
      have f5 : ([(IntKind.u8.wrap (shrI .i64 n1 (IntKind.u64.wrap (IntKind.i64.wrap (8 * k)))))] : List Int).length = 1 := rfl
      have f6 := u8_range ((shrI .i64 n1 (IntKind.u64.wrap (IntKind.i64.wrap (8 * k)))))
      have f7 : (p0 ++ [(IntKind.u8.wrap (shrI .i64 n1 (IntKind.u64.wrap (IntKind.i64.wrap (8 * k)))))]).length = p0.length + [(IntKind.u8.wrap (shrI .i64 n1 (IntKind.u64.wrap (IntKind.i64.wrap (8 * k)))))].length := List.length_append
      exact ih (t + 1) _ _ _ (by omega) (by omega) (by omega) (by omega) (by omega) (by omega) (by omega) (by omega) (by omega) (all_app h5 (all_cons ⟨(by (try dsimp only); omega), (by (try dsimp only); omega)⟩ all_nil))
    · exact EvP.some ⟨(by (try dsimp only); omega), h5, trivial⟩

theorem spec_l1Fixed_s3 {n : Int} {many : Int} (h0 : (-9223372036854775808) ≤ n) (h1 : n ≤ 9223372036854775807) (h2 : 4 ≤ many) (h3 : many ≤ 4) : EvP (fun N => spec_l1Fixed N n many) (fun r => (r.1.1.size : Int) ≤ 4 ∧ True) := by
  refine EvP.of (fun N => spec_l1Fixed.eq N _ _) ?_
  have f1 := i64w (n := (many - 1)) (by omega) (by omega)
  have f2 : ([] : List Int).length = 0 := rfl
  refine EvP.andK (spec_l1Fixed_l0_s3 4 0 _ _ _ (by omega) (by omega) (by omega) (by omega) (by omega) (by omega) (by omega) (by omega) (by omega) all_nil) ?_
  intro l1 q3
  obtain ⟨p4, p5, -⟩ := q3
  have f6 := strL_size l1.2.1
  exact EvP.some ⟨(by (try dsimp only); omega), trivial⟩

theorem spec_l1Fixed_l0_s4 (d : Nat) : ∀ (t : Int) (n1 : Int) (k : Int) (p0 : (List Int)), 0 ≤ t → t ≤ 8 → t + (k - 0 + 1) ≤ 8 → k - 0 + 1 ≤ (d : Int) → (-9223372036854775808) ≤ n1 → n1 ≤ 9223372036854775807 → (-2) ≤ k → k ≤ 7 → (p0.length : Int) ≤ t → (∀ y ∈ p0, 0 ≤ y ∧ y ≤ 255) → EvP (fun N => spec_l1Fixed.l0 N n1 k p0) (fun r => (r.2.1.length : Int) ≤ 8 ∧ (∀ y ∈ r.2.1, 0 ≤ y ∧ y ≤ 255) ∧ True) := by
  induction d with
  | zero =>
    intro t n1 k p0 t0 t1 t2 t3 h0 h1 h2 h3 h4 h5
    refine EvP.step (fun N => spec_l1Fixed.l0.eq N _ _ _) ?_
    refine EvP.ite (fun c1 => ?_) (fun c1 => ?_)
    · have f2 := i64w (n := (8 * k)) (by omega) (by omega)
      have f3 := u64i (n := (IntKind.i64.wrap (8 * k))) (by omega) (by omega)
      refine EvP.chk (decide_eq_true (by omega)) ?_
      refine EvP.chk (decide_eq_true (by unfold most; omega)) ?_
      omega
    · exact EvP.some ⟨(by (try dsimp only); omega), h5, trivial⟩
  | succ d ih =>
    intro t n1 k p0 t0 t1 t2 t3 h0 h1 h2 h3 h4 h5
    refine EvP.step (fun N => spec_l1Fixed.l0.eq N _ _ _) ?_
    refine EvP.ite (fun c1 => ?_) (fun c1 => ?_)
    · have f2 := i64w (n := (8 * k)) (by omega) (by omega)
      have f3 := u64i (n := (IntKind.i64.wrap (8 * k))) (by omega) (by omega)
      refine EvP.chk (decide_eq_true (by omega)) ?_
      refine EvP.chk (decide_eq_true (by unfold most; omega)) ?_
      have f4 := i64w (n := (k - 1)) (by omega) (by omega)
      have f5 : ([(IntKind.u8.wrap (shrI .i64 n1 (IntKind.u64.wrap (IntKind.i64.wrap (8 * k)))))] : List Int).length = 1 := rfl
      have f6 := u8_range ((shrI .i64 n1 (IntKind.u64.wrap (IntKind.i64.wrap (8 * k)))))
      have f7 : (p0 ++ [(IntKind.u8.wrap (shrI .i64 n1 (IntKind.u64.wrap (IntKind.i64.wrap (8 * k)))))]).length = p0.length + [(IntKind.u8.wrap (shrI .i64 n1 (IntKind.u64.wrap (IntKind.i64.wrap (8 * k)))))].length := List.length_append
      exact ih (t + 1) _ _ _ (by omega) (by omega) (by omega) (by omega) (by omega) (by omega) (by omega) (by omega) (by omega) (all_app h5 (all_cons ⟨(by (try dsimp only); omega), (by (try dsimp only); omega)⟩ all_nil))
    · exact EvP.some ⟨(by (try dsimp only); omega), h5, trivial⟩

theorem spec_l1Fixed_s4 {n : Int} {many : Int} (h0 : (-9223372036854775808) ≤ n) (h1 : n ≤ 9223372036854775807) (h2 : 8 ≤ many) (h3 : many ≤ 8) : EvP (fun N => spec_l1Fixed N n many) (fun r => (r.1.1.size : Int) ≤ 8 ∧ True) := by
  refine EvP.of (fun N => spec_l1Fixed.eq N _ _) ?_
  have f1 := i64w (n := (many - 1)) (by omega) (by omega)
  have f2 : ([] : List Int).length = 0 := rfl
  refine EvP.andK (spec_l1Fixed_l0_s4 8 0 _ _ _ (by omega) (by omega) (by omega) (by omega) (by omega) (by omega) (by omega) (by omega) (by omega) all_nil) ?_
  intro l1 q3
  obtain ⟨p4, p5, -⟩ := q3
  have f6 := strL_size l1.2.1
  exact EvP.some ⟨(by (try dsimp only); omega), trivial⟩

theorem spec_l1Var_s {n : Int} (h0 : (-1) ≤ n) (h1 : n ≤ 4611686018427387904) : EvP (fun N => spec_l1Var N n) (fun r => (r.1.1.size : Int) ≤ 8 ∧ True) := by
  refine EvP.of (fun N => spec_l1Var.eq N _) ?_
  refine EvP.andK (spec_l1Size_s (by omega) (by omega)) ?_
  intro u1 q1
  obtain ⟨p2, p3, -⟩ := q1
  refine EvP.ite (fun c4 => ?_) (fun c4 => ?_)
  · refine EvP.andK (spec_l1Fixed_s (by omega) (by omega) (by omega) (by omega)) ?_
    intro u2 q5
    obtain ⟨p6, -⟩ := q5
    exact EvP.some ⟨(by (try dsimp only); omega), trivial⟩
  · refine EvP.ite (fun c7 => ?_) (fun c7 => ?_)
    · have f8 : (-9223372036854775808) ≤ (Go.bits .or .i64 n 16384) ∧ (Go.bits .or .i64 n 16384) ≤ 9223372036854775807 := bits_range .or .i64 n 16384 (by decide)
      refine EvP.andK (spec_l1Fixed_s2 (by omega) (by omega) (by omega) (by omega)) ?_
      intro u3 q9
      obtain ⟨p10, -⟩ := q9
      exact EvP.some ⟨(by (try dsimp only); omega), trivial⟩
    · refine EvP.ite (fun c11 => ?_) (fun c11 => ?_)
      · have f12 : (-9223372036854775808) ≤ (Go.bits .or .i64 n 2147483648) ∧ (Go.bits .or .i64 n 2147483648) ≤ 9223372036854775807 := bits_range .or .i64 n 2147483648 (by decide)
        refine EvP.andK (spec_l1Fixed_s3 (by omega) (by omega) (by omega) (by omega)) ?_
        intro u4 q13
        obtain ⟨p14, -⟩ := q13
        exact EvP.some ⟨(by (try dsimp only); omega), trivial⟩
      · have f15 : (-9223372036854775808) ≤ (Go.bits .or .i64 n (-4611686018427387904)) ∧ (Go.bits .or .i64 n (-4611686018427387904)) ≤ 9223372036854775807 := bits_range .or .i64 n (-4611686018427387904) (by decide)
        refine EvP.andK (spec_l1Fixed_s4 (by omega) (by omega) (by omega) (by omega)) ?_
        intro u5 q16
        obtain ⟨p17, -⟩ := q16
        exact EvP.some ⟨(by (try dsimp only); omega), trivial⟩

theorem spec_l1Size_s2 {n : Int} (h0 : 0 ≤ n) (h1 : n ≤ 201) : EvP (fun N => spec_l1Size N n) (fun r => 1 ≤ r.1.1 ∧ r.1.1 ≤ 2 ∧ True) := by
  refine EvP.of (fun N => spec_l1Size.eq N _) ?_
  refine EvP.ite (fun c1 => ?_) (fun c1 => ?_)
  · exact EvP.some ⟨(by (try dsimp only); omega), (by (try dsimp only); omega), trivial⟩
  · refine EvP.pos (by omega) ?_
    exact EvP.some ⟨(by (try dsimp only); omega), (by (try dsimp only); omega), trivial⟩

theorem spec_l1Fixed_l0_s5 (d : Nat) : ∀ (t : Int) (n1 : Int) (k : Int) (p0 : (List Int)), 0 ≤ t → t ≤ 1 → t + (k - 0 + 1) ≤ 1 → k - 0 + 1 ≤ (d : Int) → 0 ≤ n1 → n1 ≤ 201 → (-2) ≤ k → k ≤ 0 → (p0.length : Int) ≤ t → (∀ y ∈ p0, 0 ≤ y ∧ y ≤ 255) → EvP (fun N => spec_l1Fixed.l0 N n1 k p0) (fun r => (r.2.1.length : Int) ≤ 1 ∧ (∀ y ∈ r.2.1, 0 ≤ y ∧ y ≤ 255) ∧ True) := by
  induction d with
  | zero =>
    intro t n1 k p0 t0 t1 t2 t3 h0 h1 h2 h3 h4 h5
    refine EvP.step (fun N => spec_l1Fixed.l0.eq N _ _ _) ?_
    refine EvP.ite (fun c1 => ?_) (fun c1 => ?_)
    · have f2 := i64w (n := (8 * k)) (by omega) (by omega)
      have f3 := u64i (n := (IntKind.i64.wrap (8 * k))) (by omega) (by omega)
      refine EvP.chk (decide_eq_true (by omega)) ?_
      refine EvP.chk (decide_eq_true (by unfold most; omega)) ?_
      omega
    · exact EvP.some ⟨(by (try dsimp only); omega), h5, trivial⟩
  | succ d ih =>
    intro t n1 k p0 t0 t1 t2 t3 h0 h1 h2 h3 h4 h5
    refine EvP.step (fun N => spec_l1Fixed.l0.eq N _ _ _) ?_
    refine EvP.ite (fun c1 => ?_) (fun c1 => ?_)
    · have f2 := i64w (n := (8 * k)) (by omega) (by omega)
      have f3 := u64i (n := (IntKind.i64.wrap (8 * k))) (by omega) (by omega)
      refine EvP.chk (decide_eq_true (by omega)) ?_
      refine EvP.chk (decide_eq_true (by unfold most; omega)) ?_
      have f4 := i64w (n := (k - 1)) (by omega) (by omega)
      have f5 : ([(IntKind.u8.wrap (shrI .i64 n1 (IntKind.u64.wrap (IntKind.i64.wrap (8 * k)))))] : List Int).length = 1 := rfl
      have f6 := u8_range ((shrI .i64 n1 (IntKind.u64.wrap (IntKind.i64.wrap (8 * k)))))
      have f7 : (p0 ++ [(IntKind.u8.wrap (shrI .i64 n1 (IntKind.u64.wrap (IntKind.i64.wrap (8 * k)))))]).length = p0.length + [(IntKind.u8.wrap (shrI .i64 n1 (IntKind.u64.wrap (IntKind.i64.wrap (8 * k)))))].length := List.length_append
      exact ih (t + 1) _ _ _ (by omega) (by omega) (by omega) (by omega) (by omega) (by omega) (by omega) (by omega) (by omega) (all_app h5 (all_cons ⟨(by (try dsimp only); omega), (by (try dsimp only); omega)⟩ all_nil))
    · exact EvP.some ⟨(by (try dsimp only); omega), h5, trivial⟩

theorem spec_l1Fixed_s5 {n : Int} {many : Int} (h0 : 0 ≤ n) (h1 : n ≤ 201) (h2 : 1 ≤ many) (h3 : many ≤ 1) : EvP (fun N => spec_l1Fixed N n many) (fun r => (r.1.1.size : Int) ≤ 1 ∧ True) := by
  refine EvP.of (fun N => spec_l1Fixed.eq N _ _) ?_
  have f1 := i64w (n := (many - 1)) (by omega) (by omega)
  have f2 : ([] : List Int).length = 0 := rfl
  refine EvP.andK (spec_l1Fixed_l0_s5 1 0 _ _ _ (by omega) (by omega) (by omega) (by omega) (by omega) (by omega) (by omega) (by omega) (by omega) all_nil) ?_
  intro l1 q3
  obtain ⟨p4, p5, -⟩ := q3
  have f6 := strL_size l1.2.1
  exact EvP.some ⟨(by (try dsimp only); omega), trivial⟩

theorem spec_l1Var_s2 {n : Int} (h0 : 0 ≤ n) (h1 : n ≤ 201) : EvP (fun N => spec_l1Var N n) (fun r => (r.1.1.size : Int) ≤ 8 ∧ True) := by
  refine EvP.of (fun N => spec_l1Var.eq N _) ?_
  refine EvP.andK (spec_l1Size_s2 (by omega) (by omega)) ?_
  intro u1 q1
  obtain ⟨p2, p3, -⟩ := q1
  refine EvP.ite (fun c4 => ?_) (fun c4 => ?_)
  · refine EvP.andK (spec_l1Fixed_s5 (by omega) (by omega) (by omega) (by omega)) ?_
    intro u2 q5
    obtain ⟨p6, -⟩ := q5
    exact EvP.some ⟨(by (try dsimp only); omega), trivial⟩
  · refine EvP.ite (fun c7 => ?_) (fun c7 => ?_)
    · have f8 : (-9223372036854775808) ≤ (Go.bits .or .i64 n 16384) ∧ (Go.bits .or .i64 n 16384) ≤ 9223372036854775807 := bits_range .or .i64 n 16384 (by decide)
      refine EvP.andK (spec_l1Fixed_s2 (by omega) (by omega) (by omega) (by omega)) ?_
      intro u3 q9
      obtain ⟨p10, -⟩ := q9
      exact EvP.some ⟨(by (try dsimp only); omega), trivial⟩
    · refine EvP.neg (by omega) ?_
      have f12 : (-9223372036854775808) ≤ (Go.bits .or .i64 n (-4611686018427387904)) ∧ (Go.bits .or .i64 n (-4611686018427387904)) ≤ 9223372036854775807 := bits_range .or .i64 n (-4611686018427387904) (by decide)
      refine EvP.andK (spec_l1Fixed_s4 (by omega) (by omega) (by omega) (by omega)) ?_
      intro u5 q13
      obtain ⟨p14, -⟩ := q13
      exact EvP.some ⟨(by (try dsimp only); omega), trivial⟩

theorem spec_l16Bytes_l0_s (d : Nat) : ∀ (t : Int) (t6 : (List (Int × ByteArray))) (t7 : Int) (s : ByteArray) (t8 : Int), 0 ≤ t → t ≤ 31 → t + (t7 - t8) ≤ 31 → t7 - t8 ≤ (d : Int) → (t6.length : Int) ≤ 31 → (∀ y ∈ t6, (-1) ≤ y.1 ∧ y.1 ≤ 4611686018427387904 ∧ (y.2.size : Int) ≤ 201) → 0 ≤ t7 → t7 ≤ 31 → (s.size : Int) ≤ 217 * t → 0 ≤ t8 → t8 ≤ 32 → t7 = (t6.length : Int) → EvP (fun N => spec_l16Bytes.l0 N t6 t7 s t8) (fun r => (r.1.1.size : Int) ≤ 6727 ∧ True) := by
  induction d with
  | zero =>
    intro t t6 t7 s t8 t0 t1 t2 t3 h0 h1 h2 h3 h4 h5 h6 e0
    refine EvP.step (fun N => spec_l16Bytes.l0.eq N _ _ _ _) ?_
    refine EvP.ite (fun c1 => ?_) (fun c1 => ?_)
    · refine EvP.chk (and_i (decide_eq_true (by omega)) (decide_eq_true (by omega))) ?_
      have g2 := rdS_all ((.pair (.int .i64) .str)) (P := fun (y : (Int × ByteArray)) => (-1) ≤ y.1 ∧ y.1 ≤ 4611686018427387904 ∧ (y.2.size : Int) ≤ 201) h1 (Int.toNat t8) (by simp [Sh.dflt])
      obtain ⟨g3, g4, g5⟩ := g2
      refine EvP.andK (spec_l1Var_s (by omega) (by omega)) ?_
      intro u1 q6
      obtain ⟨p7, -⟩ := q6
      refine EvP.andK (spec_l1Var_s2 (by omega) (by omega)) ?_
      intro u2 q8
      obtain ⟨p9, -⟩ := q8
      refine EvP.chk (decide_eq_true (by omega)) ?_
      have f10 : (u1.1.1 ++ u2.1.1).size = u1.1.1.size + u2.1.1.size := ByteArray.size_append
      refine EvP.chk (decide_eq_true (by omega)) ?_
      have f11 : ((u1.1.1 ++ u2.1.1) ++ (rdS (.pair (.int .i64) .str) t6 (Int.toNat t8)).2).size = (u1.1.1 ++ u2.1.1).size + (rdS (.pair (.int .i64) .str) t6 (Int.toNat t8)).2.size := ByteArray.size_append
      refine EvP.chk (decide_eq_true (by omega)) ?_
      omega
    · exact EvP.some ⟨(by (try dsimp only); omega), trivial⟩
  | succ d ih =>
    intro t t6 t7 s t8 t0 t1 t2 t3 h0 h1 h2 h3 h4 h5 h6 e0
    refine EvP.step (fun N => spec_l16Bytes.l0.eq N _ _ _ _) ?_
    refine EvP.ite (fun c1 => ?_) (fun c1 => ?_)
    · refine EvP.chk (and_i (decide_eq_true (by omega)) (decide_eq_true (by omega))) ?_
      have g2 := rdS_all ((.pair (.int .i64) .str)) (P := fun (y : (Int × ByteArray)) => (-1) ≤ y.1 ∧ y.1 ≤ 4611686018427387904 ∧ (y.2.size : Int) ≤ 201) h1 (Int.toNat t8) (by simp [Sh.dflt])
      obtain ⟨g3, g4, g5⟩ := g2
      refine EvP.andK (spec_l1Var_s (by omega) (by omega)) ?_
      intro u1 q6
      obtain ⟨p7, -⟩ := q6
      refine EvP.andK (spec_l1Var_s2 (by omega) (by omega)) ?_
      intro u2 q8
      obtain ⟨p9, -⟩ := q8
      refine EvP.chk (decide_eq_true (by omega)) ?_
      have f10 : (u1.1.1 ++ u2.1.1).size = u1.1.1.size + u2.1.1.size := ByteArray.size_append
      refine EvP.chk (decide_eq_true (by omega)) ?_
      have f11 : ((u1.1.1 ++ u2.1.1) ++ (rdS (.pair (.int .i64) .str) t6 (Int.toNat t8)).2).size = (u1.1.1 ++ u2.1.1).size + (rdS (.pair (.int .i64) .str) t6 (Int.toNat t8)).2.size := ByteArray.size_append
      refine EvP.chk (decide_eq_true (by omega)) ?_
      have f12 : (s ++ ((u1.1.1 ++ u2.1.1) ++ (rdS (.pair (.int .i64) .str) t6 (Int.toNat t8)).2)).size = s.size + ((u1.1.1 ++ u2.1.1) ++ (rdS (.pair (.int .i64) .str) t6 (Int.toNat t8)).2).size := ByteArray.size_append
      have f13 := i64w (n := (t8 + 1)) (by omega) (by omega)
      exact ih (t + 1) _ _ _ _ (by omega) (by omega) (by omega) (by omega) (by omega) h1 (by omega) (by omega) (by omega) (by omega) (by omega) (by omega)
    · exact EvP.some ⟨(by (try dsimp only); omega), trivial⟩

theorem spec_l16Bytes_s {l : (List (Int × ByteArray))} (h0 : (l.length : Int) ≤ 31) (h1 : ∀ y ∈ l, (-1) ≤ y.1 ∧ y.1 ≤ 4611686018427387904 ∧ (y.2.size : Int) ≤ 201) : EvP (fun N => spec_l16Bytes N l) (fun r => (r.1.1.size : Int) ≤ 6727 ∧ True) := by
  refine EvP.of (fun N => spec_l16Bytes.eq N _) ?_
  have f1 : (⟨#[]⟩ : ByteArray).size = 0 := rfl
  refine EvP.andK (spec_l16Bytes_l0_s 31 0 _ _ _ _ (by omega) (by omega) (by omega) (by omega) (by omega) h1 (by omega) (by omega) (by omega) (by omega) (by omega) (by omega)) ?_
  intro l3 q2
  obtain ⟨p3, -⟩ := q2
  exact EvP.some ⟨(by (try dsimp only); omega), trivial⟩

theorem spec_CapsulesBytes_s {l : (List (Int × ByteArray))} (h0 : (l.length : Int) ≤ 31) (h1 : ∀ y ∈ l, (-1) ≤ y.1 ∧ y.1 ≤ 4611686018427387904 ∧ (y.2.size : Int) ≤ 201) : EvP (fun N => spec_CapsulesBytes N l) (fun r => (r.1.1.size : Int) ≤ 6727 ∧ True) := by
  refine EvP.of (fun N => spec_CapsulesBytes.eq N _) ?_
  refine EvP.andK (spec_l16Good_s (by omega) h1) ?_
  intro u1 q1
  refine EvP.sel (fun c2 => ?_) (fun c2 => ?_)
  · have f3 : (⟨#[]⟩ : ByteArray).size = 0 := rfl
    exact EvP.some ⟨(by (try dsimp only); omega), trivial⟩
  · refine EvP.andK (spec_l16Bytes_s (by omega) h1) ?_
    intro u2 q4
    obtain ⟨p5, -⟩ := q4
    exact EvP.some ⟨(by (try dsimp only); omega), trivial⟩

theorem spec_DrawReadCapsules_s {code : (List Int)} (h0 : ∀ y ∈ code, 0 ≤ y ∧ y ≤ 255) : EvP (fun N => spec_DrawReadCapsules N code) (fun r => (r.1.1.size : Int) ≤ 6729 ∧ True) := by
  refine EvP.of (fun N => spec_DrawReadCapsules.eq N _) ?_
  refine EvP.andK (spec_l1Cur_capsules_s (b := 0) h0 (by omega) (by omega) (by omega)) ?_
  intro u1 q1
  obtain ⟨p2, p3, p4, p5, p6, -⟩ := q1
  refine EvP.andK (spec_CapsulesBytes_s (by omega) p6) ?_
  intro u2 q7
  obtain ⟨p8, -⟩ := q7
  refine EvP.andK (Q := fun r => (r.1.2.1.size : Int) ≤ 6727 ∧ (∀ y ∈ r.2.1.1, 0 ≤ y ∧ y ≤ 255) ∧ 0 ≤ r.2.1.2.1 ∧ r.2.1.2.1 ≤ 2798 ∧ (r.2.2.1.length : Int) ≤ 31 ∧ (∀ y ∈ r.2.2.1, (-1) ≤ y.1 ∧ y.1 ≤ 4611686018427387904 ∧ (y.2.size : Int) ≤ 201) ∧ True) ?_ ?_
  · refine EvP.andK (Q := fun r => (∀ y ∈ r.2.1.1, 0 ≤ y ∧ y ≤ 255) ∧ 0 ≤ r.2.1.2.1 ∧ r.2.1.2.1 ≤ 2798 ∧ (r.2.2.1.length : Int) ≤ 31 ∧ (∀ y ∈ r.2.2.1, (-1) ≤ y.1 ∧ y.1 ≤ 4611686018427387904 ∧ (y.2.size : Int) ≤ 201) ∧ (r.1.2.1 = true → 1500 < (u2.1.1.size : Int)) ∧ True) ?_ ?_
    · refine EvP.ite (fun c9 => ?_) (fun c9 => ?_)
      · refine EvP.andK (one_s (b := 2796) p2 (by omega) (by omega) (by omega)) ?_
        intro u3 q10
        obtain ⟨p11, p12, p13, -⟩ := q10
        exact EvP.some ⟨p11, (by (try dsimp only); omega), (by (try dsimp only); omega), (by (try dsimp only); omega), p6, (fun h => by omega), trivial⟩
      · exact EvP.some ⟨p2, (by (try dsimp only); omega), (by (try dsimp only); omega), (by (try dsimp only); omega), p6, (fun h => by cases h), trivial⟩
    · intro j4 q14
      obtain ⟨p15, p16, p17, p18, p19, p20, -⟩ := q14
      refine EvP.sel (fun c21 => ?_) (fun c21 => ?_)
      · have f22 := p20 c21
        refine EvP.chk (decide_eq_true (by omega)) ?_
        have f23 := extract_f u2.1.1 0 200
        exact EvP.some ⟨(by (try dsimp only); omega), p15, (by (try dsimp only); omega), (by (try dsimp only); omega), (by (try dsimp only); omega), p19, trivial⟩
      · exact EvP.some ⟨(by (try dsimp only); omega), p15, (by (try dsimp only); omega), (by (try dsimp only); omega), (by (try dsimp only); omega), p19, trivial⟩
  · intro j5 q24
    obtain ⟨p25, p26, p27, p28, p29, p30, -⟩ := q24
    refine EvP.andK (pick_s (b := 2798) (n := 4) (m := 3) p26 (by omega) (by omega) (by omega) (by omega) (by omega)) ?_
    intro u6 q31
    obtain ⟨q32, q33⟩ := q31
    obtain ⟨p34, p35, p36, p37⟩ := q32
    obtain ⟨p38, p39, p40, -⟩ := q33
    refine EvP.ite (fun c41 => ?_) (fun c41 => ?_)
    · have f42 : (⟨#[0, 5, 64, 201, 255]⟩ : ByteArray).size = 5 := rfl
      refine EvP.andK (spoilt_s (b := 2800) (m := 6727) p38 (by decide) (by decide) (by omega) (by decide) (by omega) (by omega) (by omega)) ?_
      intro u7 q43
      obtain ⟨p44, p45, p46, p47, -⟩ := q43
      exact EvP.some ⟨(by (try dsimp only); omega), trivial⟩
    · refine EvP.ite (fun c48 => ?_) (fun c48 => ?_)
      · have f49 := i64w (n := ((j5.1.2.1.size : Int) + 1)) (by omega) (by omega)
        refine EvP.andK (pick_s (b := 2800) (n := (IntKind.i64.wrap ((j5.1.2.1.size : Int) + 1))) (m := 6727) p38 (by omega) (by omega) (by omega) (by omega) (by omega)) ?_
        intro u8 q50
        obtain ⟨q51, q52⟩ := q50
        obtain ⟨p53, p54, p55, p56⟩ := q51
        obtain ⟨p57, p58, p59, -⟩ := q52
        refine EvP.chk (and_i (decide_eq_true (by omega)) (decide_eq_true (by omega))) ?_
        have f60 := extract_f j5.1.2.1 0 (Int.toNat u8.1.1)
        exact EvP.some ⟨(by (try dsimp only); omega), trivial⟩
      · exact EvP.some ⟨(by (try dsimp only); omega), trivial⟩

end Go.Proofs.Ytdmnpmhdindabaa.CFnCapsules
