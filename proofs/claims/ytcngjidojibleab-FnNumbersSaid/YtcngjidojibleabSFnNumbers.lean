/- What is drawn: it comes to an end, and how large it is. Written by a program of this session; Lean checks it. -/
import Derived.Test.YtcngjidojibleabQCuFnNumbers
import Derived.Test.YtcngjidojibleabQCuAmongFnNumbers
set_option linter.unusedVariables false
set_option maxRecDepth 10000
namespace Go.Proofs.Ytcngjidojibleab.CFnNumbers
open Go Go.Proofs Go.Proofs.YtcngjidojibleabPM Go.Proofs.Ytcngjidojibleab.Q Go.Proofs.Ytcngjidojibleab.GFnNumbers

theorem spec_l1Cur_id_s {b : Int} {p0_0 : (List Int)} {p0_1 : Int} {p0_2 : Int} (h0 : ∀ y ∈ p0_0, 0 ≤ y ∧ y ≤ 255) (h1 : 0 ≤ p0_1) (h2 : p0_1 ≤ b) (hb : b ≤ 4611686018423999994) : EvP (fun N => spec_l1Cur_id N p0_0 p0_1 p0_2) (fun r => (r.1.1.size : Int) ≤ 21 ∧ (∀ y ∈ r.2.1.1, 0 ≤ y ∧ y ≤ 255) ∧ 0 ≤ r.2.1.2.1 ∧ r.2.1.2.1 ≤ (b + 48) ∧ True) := by
  refine EvP.of (fun N => spec_l1Cur_id.eq N _ _ _) ?_
  refine EvP.andK (pick_s (b := b) (n := 10) (m := 9) h0 (by omega) (by omega) (by omega) (by omega) (by omega)) ?_
  intro u1 q1
  obtain ⟨p2, p3, p4, p5, p6, -⟩ := q1
  refine EvP.andK (Q := fun r => 0 ≤ r.1.2.1 ∧ r.1.2.1 ≤ 21 ∧ (∀ y ∈ r.2.1.1, 0 ≤ y ∧ y ≤ 255) ∧ 0 ≤ r.2.1.2.1 ∧ r.2.1.2.1 ≤ (b + 6) ∧ True) ?_ ?_
  · refine EvP.andK (one_s (b := (b + 2)) p4 (by omega) (by omega) (by omega)) ?_
    intro u2 q7
    obtain ⟨p8, p9, p10, -⟩ := q7
    refine EvP.sel (fun c11 => ?_) (fun c11 => ?_)
    · have f12 : ([20, 21, 0] : List Int).length = 3 := rfl
      refine EvP.andK (among_s (b := (b + 4)) (P := fun y => 0 ≤ y ∧ y ≤ 21) (all_cons ⟨(by (try dsimp only); omega), (by (try dsimp only); omega)⟩ (all_cons ⟨(by (try dsimp only); omega), (by (try dsimp only); omega)⟩ (all_cons ⟨(by (try dsimp only); omega), (by (try dsimp only); omega)⟩ all_nil))) (by decide) p8 (by omega) (by omega) (by omega)) ?_
      intro u3 q13
      obtain ⟨q14, q15⟩ := q13
      obtain ⟨p16, p17⟩ := q14
      obtain ⟨p18, p19, p20, -⟩ := q15
      exact EvP.some ⟨(by (try dsimp only); omega), (by (try dsimp only); omega), p18, (by (try dsimp only); omega), (by (try dsimp only); omega), trivial⟩
    · exact EvP.some ⟨(by (try dsimp only); omega), (by (try dsimp only); omega), p8, (by (try dsimp only); omega), (by (try dsimp only); omega), trivial⟩
  · intro j4 q21
    obtain ⟨p22, p23, p24, p25, p26, -⟩ := q21
    refine EvP.andK (sized_s (b := (b + 6)) (n := j4.1.2.1) (m := 21) p24 (by omega) (by omega) (by decide) (by omega) (by omega) (by omega)) ?_
    intro u5 q27
    obtain ⟨p28, p29, p30, p31, p32, -⟩ := q27
    have f33 := strL_size u5.2.2.1
    exact EvP.some ⟨(by (try dsimp only); omega), p28, (by (try dsimp only); omega), (by (try dsimp only); omega), trivial⟩

theorem spec_l1Cur_wide_l0_s {b : Int} (hb : b ≤ 4611686018426999992) (d : Nat) : ∀ (t : Int) (n : Int) (i : Int) (p0_01 : (List Int)) (p0_11 : Int) (p0_21 : Int), 0 ≤ t → t ≤ 8 → t + (8 - i) ≤ 8 → 8 - i ≤ (d : Int) → (-9223372036854775808) ≤ n → n ≤ 9223372036854775807 → 0 ≤ i → i ≤ 9 → (∀ y ∈ p0_01, 0 ≤ y ∧ y ≤ 255) → 0 ≤ p0_11 → p0_11 ≤ (b + t) → EvP (fun N => spec_l1Cur_wide.l0 N n i p0_01 p0_11 p0_21) (fun r => (-9223372036854775808) ≤ r.1.1 ∧ r.1.1 ≤ 9223372036854775807 ∧ (∀ y ∈ r.2.1.1, 0 ≤ y ∧ y ≤ 255) ∧ 0 ≤ r.2.1.2.1 ∧ r.2.1.2.1 ≤ (b + 8) ∧ True) := by
  induction d with
  | zero =>
    intro t n i p0_01 p0_11 p0_21 t0 t1 t2 t3 h0 h1 h2 h3 h4 h5 h6
    refine EvP.step (fun N => spec_l1Cur_wide.l0.eq N _ _ _ _ _) ?_
    refine EvP.ite (fun c1 => ?_) (fun c1 => ?_)
    · refine EvP.andK (next_s (b := (b + t)) h4 (by omega) (by omega) (by omega)) ?_
      intro u1 q2
      obtain ⟨p3, p4, p5, p6, p7, -⟩ := q2
      omega
    · exact EvP.some ⟨(by (try dsimp only); omega), (by (try dsimp only); omega), h4, (by (try dsimp only); omega), (by (try dsimp only); omega), trivial⟩
  | succ d ih =>
    intro t n i p0_01 p0_11 p0_21 t0 t1 t2 t3 h0 h1 h2 h3 h4 h5 h6
    refine EvP.step (fun N => spec_l1Cur_wide.l0.eq N _ _ _ _ _) ?_
    refine EvP.ite (fun c1 => ?_) (fun c1 => ?_)
    · refine EvP.andK (next_s (b := (b + t)) h4 (by omega) (by omega) (by omega)) ?_
      intro u1 q2
      obtain ⟨p3, p4, p5, p6, p7, -⟩ := q2
      have f8 : (-9223372036854775808) ≤ (shlI .i64 n 8) ∧ (shlI .i64 n 8) ≤ 9223372036854775807 := shl_range .i64 n 8 (by decide)
      have f9 : (-9223372036854775808) ≤ (Go.bits .or .i64 (shlI .i64 n 8) u1.1.1) ∧ (Go.bits .or .i64 (shlI .i64 n 8) u1.1.1) ≤ 9223372036854775807 := bits_range .or .i64 (shlI .i64 n 8) u1.1.1 (by decide)
      have f10 := i64w (n := (i + 1)) (by omega) (by omega)
      exact ih (t + 1) _ _ _ _ _ (by omega) (by omega) (by omega) (by omega) (by omega) (by omega) (by omega) (by omega) p5 (by omega) (by omega)
    · exact EvP.some ⟨(by (try dsimp only); omega), (by (try dsimp only); omega), h4, (by (try dsimp only); omega), (by (try dsimp only); omega), trivial⟩

theorem spec_l1Cur_wide_s {b : Int} {p0_0 : (List Int)} {p0_1 : Int} {p0_2 : Int} (h0 : ∀ y ∈ p0_0, 0 ≤ y ∧ y ≤ 255) (h1 : 0 ≤ p0_1) (h2 : p0_1 ≤ b) (hb : b ≤ 4611686018426999992) : EvP (fun N => spec_l1Cur_wide N p0_0 p0_1 p0_2) (fun r => (-9223372036854775808) ≤ r.1.1 ∧ r.1.1 ≤ 9223372036854775807 ∧ (∀ y ∈ r.2.1.1, 0 ≤ y ∧ y ≤ 255) ∧ 0 ≤ r.2.1.2.1 ∧ r.2.1.2.1 ≤ (b + 8) ∧ True) := by
  refine EvP.of (fun N => spec_l1Cur_wide.eq N _ _ _) ?_
  refine EvP.andK (spec_l1Cur_wide_l0_s (b := b) (by omega) 8 0 _ _ _ _ _ (by omega) (by omega) (by omega) (by omega) (by omega) (by omega) (by omega) (by omega) h0 (by omega) (by omega)) ?_
  intro l2 q1
  obtain ⟨p2, p3, p4, p5, p6, -⟩ := q1
  exact EvP.some ⟨(by (try dsimp only); omega), (by (try dsimp only); omega), p4, (by (try dsimp only); omega), (by (try dsimp only); omega), trivial⟩

theorem spec_l1Cur_num_s {b : Int} {p0_0 : (List Int)} {p0_1 : Int} {p0_2 : Int} (h0 : ∀ y ∈ p0_0, 0 ≤ y ∧ y ≤ 255) (h1 : 0 ≤ p0_1) (h2 : p0_1 ≤ b) (hb : b ≤ 4611686018426999990) : EvP (fun N => spec_l1Cur_num N p0_0 p0_1 p0_2) (fun r => 0 ≤ r.1.1 ∧ r.1.1 ≤ 4611686018427387903 ∧ (∀ y ∈ r.2.1.1, 0 ≤ y ∧ y ≤ 255) ∧ 0 ≤ r.2.1.2.1 ∧ r.2.1.2.1 ≤ (b + 10) ∧ True) := by
  refine EvP.of (fun N => spec_l1Cur_num.eq N _ _ _) ?_
  refine EvP.andK (pick_s (b := b) (n := 8) (m := 7) h0 (by omega) (by omega) (by omega) (by omega) (by omega)) ?_
  intro u1 q1
  obtain ⟨p2, p3, p4, p5, p6, -⟩ := q1
  refine EvP.ite (fun c7 => ?_) (fun c7 => ?_)
  · have f8 : ([0, 63, 64, 16383, 16384, 1073741823, 1073741824, 4611686018427387903, 4611686018427387902] : List Int).length = 9 := rfl
    refine EvP.andK (among_s (b := (b + 2)) (P := fun y => 0 ≤ y ∧ y ≤ 4611686018427387903) (all_cons ⟨(by (try dsimp only); omega), (by (try dsimp only); omega)⟩ (all_cons ⟨(by (try dsimp only); omega), (by (try dsimp only); omega)⟩ (all_cons ⟨(by (try dsimp only); omega), (by (try dsimp only); omega)⟩ (all_cons ⟨(by (try dsimp only); omega), (by (try dsimp only); omega)⟩ (all_cons ⟨(by (try dsimp only); omega), (by (try dsimp only); omega)⟩ (all_cons ⟨(by (try dsimp only); omega), (by (try dsimp only); omega)⟩ (all_cons ⟨(by (try dsimp only); omega), (by (try dsimp only); omega)⟩ (all_cons ⟨(by (try dsimp only); omega), (by (try dsimp only); omega)⟩ (all_cons ⟨(by (try dsimp only); omega), (by (try dsimp only); omega)⟩ all_nil))))))))) (by decide) p4 (by omega) (by omega) (by omega)) ?_
    intro u2 q9
    obtain ⟨q10, q11⟩ := q9
    obtain ⟨p12, p13⟩ := q10
    obtain ⟨p14, p15, p16, -⟩ := q11
    exact EvP.some ⟨(by (try dsimp only); omega), (by (try dsimp only); omega), p14, (by (try dsimp only); omega), (by (try dsimp only); omega), trivial⟩
  · refine EvP.ite (fun c17 => ?_) (fun c17 => ?_)
    · refine EvP.andK (spec_l1Cur_wide_s (b := (b + 2)) p4 (by omega) (by omega) (by omega)) ?_
      intro u3 q18
      obtain ⟨p19, p20, p21, p22, p23, -⟩ := q18
      have f24 := and1_f .i64 u3.1.1 4611686018427387903 (by decide) (by decide) (by decide)
      exact EvP.some ⟨(by (try dsimp only); omega), (by (try dsimp only); omega), p21, (by (try dsimp only); omega), (by (try dsimp only); omega), trivial⟩
    · refine EvP.andK (pick_s (b := (b + 2)) (n := 300) (m := 299) p4 (by omega) (by omega) (by omega) (by omega) (by omega)) ?_
      intro u4 q25
      obtain ⟨p26, p27, p28, p29, p30, -⟩ := q25
      exact EvP.some ⟨(by (try dsimp only); omega), (by (try dsimp only); omega), p28, (by (try dsimp only); omega), (by (try dsimp only); omega), trivial⟩

theorem spec_l1Shape_s {kind : Int} (h0 : 0 ≤ kind) (h1 : kind ≤ 1) : EvP (fun N => spec_l1Shape N kind) (fun r => (-1) ≤ r.1.1 ∧ r.1.1 ≤ 0 ∧ 0 ≤ r.1.2.1 ∧ r.1.2.1 ≤ 0 ∧ 0 ≤ r.1.2.2.1 ∧ r.1.2.2.1 ≤ 0 ∧ True) := by
  refine EvP.of (fun N => spec_l1Shape.eq N _) ?_
  refine EvP.ite (fun c1 => ?_) (fun c1 => ?_)
  · refine EvP.ite (fun c2 => ?_) (fun c2 => ?_)
    · exact EvP.some ⟨(by (try dsimp only); omega), (by (try dsimp only); omega), (by (try dsimp only); omega), (by (try dsimp only); omega), (by (try dsimp only); omega), (by (try dsimp only); omega), trivial⟩
    · refine EvP.neg (by omega) ?_
      refine EvP.neg (by omega) ?_
      refine EvP.neg (by omega) ?_
      refine EvP.neg (by omega) ?_
      refine EvP.neg (by omega) ?_
      refine EvP.neg (by omega) ?_
      refine EvP.neg (by omega) ?_
      refine EvP.neg (by omega) ?_
      refine EvP.neg (by omega) ?_
      refine EvP.neg (by omega) ?_
      refine EvP.neg (by omega) ?_
      refine EvP.neg (by omega) ?_
      refine EvP.neg (by omega) ?_
      exact EvP.some ⟨(by (try dsimp only); omega), (by (try dsimp only); omega), (by (try dsimp only); omega), (by (try dsimp only); omega), (by (try dsimp only); omega), (by (try dsimp only); omega), trivial⟩
  · refine EvP.ite (fun c16 => ?_) (fun c16 => ?_)
    · exact EvP.some ⟨(by (try dsimp only); omega), (by (try dsimp only); omega), (by (try dsimp only); omega), (by (try dsimp only); omega), (by (try dsimp only); omega), (by (try dsimp only); omega), trivial⟩
    · refine EvP.neg (by omega) ?_
      refine EvP.neg (by omega) ?_
      refine EvP.neg (by omega) ?_
      refine EvP.neg (by omega) ?_
      refine EvP.neg (by omega) ?_
      refine EvP.neg (by omega) ?_
      refine EvP.neg (by omega) ?_
      refine EvP.neg (by omega) ?_
      refine EvP.neg (by omega) ?_
      refine EvP.neg (by omega) ?_
      refine EvP.neg (by omega) ?_
      refine EvP.neg (by omega) ?_
      refine EvP.neg (by omega) ?_
      exact EvP.some ⟨(by (try dsimp only); omega), (by (try dsimp only); omega), (by (try dsimp only); omega), (by (try dsimp only); omega), (by (try dsimp only); omega), (by (try dsimp only); omega), trivial⟩

theorem spec_l1In_s {n : Int} {lo : Int} {hi : Int} (h0 : 0 ≤ n) (h1 : n ≤ 0) (h2 : 0 ≤ lo) (h3 : lo ≤ 0) (h4 : 4611686018427387903 ≤ hi) (h5 : hi ≤ 4611686018427387903) : EvP (fun N => spec_l1In N n lo hi) (fun r => True) := by
  refine EvP.of (fun N => spec_l1In.eq N _ _ _) ?_
  refine EvP.pos (by omega) ?_
  exact EvP.some trivial

theorem spec_l1Known_s {n : Int} (h0 : 0 ≤ n) (h1 : n ≤ 0) : EvP (fun N => spec_l1Known N n) (fun r => True) := by
  refine EvP.of (fun N => spec_l1Known.eq N _) ?_
  refine EvP.andK (spec_l1In_s (by omega) (by omega) (by omega) (by omega) (by omega) (by omega)) ?_
  intro u1 q1
  exact EvP.some trivial

theorem spec_l1In_s2 {n : Int} {lo : Int} {hi : Int} (h0 : 0 ≤ n) (h1 : n ≤ 0) (h2 : 0 ≤ lo) (h3 : lo ≤ 0) (h4 : 0 ≤ hi) (h5 : hi ≤ 0) : EvP (fun N => spec_l1In N n lo hi) (fun r => True) := by
  refine EvP.of (fun N => spec_l1In.eq N _ _ _) ?_
  refine EvP.pos (by omega) ?_
  exact EvP.some trivial

theorem spec_GoodFrame_s {G_0 : Int} {G_1 : Int} {G_2 : Int} {G_3 : Int} {G_4 : Bool} {G_5 : ByteArray} {G_6 : (List (Int × Int))} (h0 : 0 ≤ G_0) (h1 : G_0 ≤ 1) (h2 : 0 ≤ G_1) (h3 : G_1 ≤ 0) (h4 : 0 ≤ G_2) (h5 : G_2 ≤ 0) (h6 : 0 ≤ G_3) (h7 : G_3 ≤ 0) (h8 : (G_5.size : Int) ≤ 0) (h9 : (G_6.length : Int) ≤ 0) : EvP (fun N => spec_GoodFrame N G_0 G_1 G_2 G_3 G_4 G_5 G_6) (fun r => True) := by
  refine EvP.of (fun N => spec_GoodFrame.eq N _ _ _ _ _ _ _) ?_
  refine EvP.andK (spec_l1Shape_s (by omega) (by omega)) ?_
  intro u1 q1
  obtain ⟨p2, p3, p4, p5, p6, p7, -⟩ := q1
  refine EvP.andK (Q := fun r => 0 ≤ r.2.1.1 ∧ r.2.1.1 ≤ 1 ∧ 0 ≤ r.2.1.2.1 ∧ r.2.1.2.1 ≤ 0 ∧ 0 ≤ r.2.1.2.2.1 ∧ r.2.1.2.2.1 ≤ 0 ∧ 0 ≤ r.2.1.2.2.2.1 ∧ r.2.1.2.2.2.1 ≤ 0 ∧ (r.2.1.2.2.2.2.2.1.size : Int) ≤ 0 ∧ (r.2.1.2.2.2.2.2.2.1.length : Int) ≤ 0 ∧ True) ?_ ?_
  · refine EvP.ite (fun c8 => ?_) (fun c8 => ?_)
    · exact EvP.some ⟨(by (try dsimp only); omega), (by (try dsimp only); omega), (by (try dsimp only); omega), (by (try dsimp only); omega), (by (try dsimp only); omega), (by (try dsimp only); omega), (by (try dsimp only); omega), (by (try dsimp only); omega), (by (try dsimp only); omega), (by (try dsimp only); omega), trivial⟩
    · refine EvP.andK (spec_l1Known_s (by omega) (by omega)) ?_
      intro u2 q9
      refine EvP.sel (fun c10 => ?_) (fun c10 => ?_)
      · exact EvP.some ⟨(by (try dsimp only); omega), (by (try dsimp only); omega), (by (try dsimp only); omega), (by (try dsimp only); omega), (by (try dsimp only); omega), (by (try dsimp only); omega), (by (try dsimp only); omega), (by (try dsimp only); omega), (by (try dsimp only); omega), (by (try dsimp only); omega), trivial⟩
      · refine EvP.andK (spec_l1Known_s (by omega) (by omega)) ?_
        intro u3 q11
        refine EvP.sel (fun c12 => ?_) (fun c12 => ?_)
        · exact EvP.some ⟨(by (try dsimp only); omega), (by (try dsimp only); omega), (by (try dsimp only); omega), (by (try dsimp only); omega), (by (try dsimp only); omega), (by (try dsimp only); omega), (by (try dsimp only); omega), (by (try dsimp only); omega), (by (try dsimp only); omega), (by (try dsimp only); omega), trivial⟩
        · refine EvP.andK (spec_l1Known_s (by omega) (by omega)) ?_
          intro u4 q13
          refine EvP.sel (fun c14 => ?_) (fun c14 => ?_)
          · exact EvP.some ⟨(by (try dsimp only); omega), (by (try dsimp only); omega), (by (try dsimp only); omega), (by (try dsimp only); omega), (by (try dsimp only); omega), (by (try dsimp only); omega), (by (try dsimp only); omega), (by (try dsimp only); omega), (by (try dsimp only); omega), (by (try dsimp only); omega), trivial⟩
          · refine EvP.andK (spec_l1In_s2 (by omega) (by omega) (by omega) (by omega) (by omega) (by omega)) ?_
            intro u5 q15
            refine EvP.sel (fun c16 => ?_) (fun c16 => ?_)
            · exact EvP.some ⟨(by (try dsimp only); omega), (by (try dsimp only); omega), (by (try dsimp only); omega), (by (try dsimp only); omega), (by (try dsimp only); omega), (by (try dsimp only); omega), (by (try dsimp only); omega), (by (try dsimp only); omega), (by (try dsimp only); omega), (by (try dsimp only); omega), trivial⟩
            · refine EvP.sel (fun c17 => ?_) (fun c17 => ?_)
              · exact EvP.some ⟨(by (try dsimp only); omega), (by (try dsimp only); omega), (by (try dsimp only); omega), (by (try dsimp only); omega), (by (try dsimp only); omega), (by (try dsimp only); omega), (by (try dsimp only); omega), (by (try dsimp only); omega), (by (try dsimp only); omega), (by (try dsimp only); omega), trivial⟩
              · exact EvP.some ⟨(by (try dsimp only); omega), (by (try dsimp only); omega), (by (try dsimp only); omega), (by (try dsimp only); omega), (by (try dsimp only); omega), (by (try dsimp only); omega), (by (try dsimp only); omega), (by (try dsimp only); omega), (by (try dsimp only); omega), (by (try dsimp only); omega), trivial⟩
  · intro j6 q18
    obtain ⟨p19, p20, p21, p22, p23, p24, p25, p26, p27, p28, -⟩ := q18
    refine EvP.sel (fun c29 => ?_) (fun c29 => ?_)
    · exact EvP.some trivial
    · refine EvP.andK (Q := fun r => 0 ≤ r.2.1.1 ∧ r.2.1.1 ≤ 1 ∧ 0 ≤ r.2.1.2.1 ∧ r.2.1.2.1 ≤ 0 ∧ 0 ≤ r.2.1.2.2.1 ∧ r.2.1.2.2.1 ≤ 0 ∧ 0 ≤ r.2.1.2.2.2.1 ∧ r.2.1.2.2.2.1 ≤ 0 ∧ (r.2.1.2.2.2.2.2.1.size : Int) ≤ 0 ∧ (r.2.1.2.2.2.2.2.2.1.length : Int) ≤ 0 ∧ True) ?_ ?_
      · refine EvP.pos (by omega) ?_
        refine EvP.nite (fun c31 => ?_) (fun c31 => ?_)
        · exact EvP.some ⟨(by (try dsimp only); omega), (by (try dsimp only); omega), (by (try dsimp only); omega), (by (try dsimp only); omega), (by (try dsimp only); omega), (by (try dsimp only); omega), (by (try dsimp only); omega), (by (try dsimp only); omega), (by (try dsimp only); omega), (by (try dsimp only); omega), trivial⟩
        · refine EvP.pos (by omega) ?_
          refine EvP.nite (fun c33 => ?_) (fun c33 => ?_)
          · exact EvP.some ⟨(by (try dsimp only); omega), (by (try dsimp only); omega), (by (try dsimp only); omega), (by (try dsimp only); omega), (by (try dsimp only); omega), (by (try dsimp only); omega), (by (try dsimp only); omega), (by (try dsimp only); omega), (by (try dsimp only); omega), (by (try dsimp only); omega), trivial⟩
          · refine EvP.pos (by omega) ?_
            exact EvP.some ⟨(by (try dsimp only); omega), (by (try dsimp only); omega), (by (try dsimp only); omega), (by (try dsimp only); omega), (by (try dsimp only); omega), (by (try dsimp only); omega), (by (try dsimp only); omega), (by (try dsimp only); omega), (by (try dsimp only); omega), (by (try dsimp only); omega), trivial⟩
      · intro j7 q35
        obtain ⟨p36, p37, p38, p39, p40, p41, p42, p43, p44, p45, -⟩ := q35
        refine EvP.sel (fun c46 => ?_) (fun c46 => ?_)
        · exact EvP.some trivial
        · refine EvP.andK (Q := fun r => 0 ≤ r.2.1.1 ∧ r.2.1.1 ≤ 1 ∧ 0 ≤ r.2.1.2.1 ∧ r.2.1.2.1 ≤ 0 ∧ 0 ≤ r.2.1.2.2.1 ∧ r.2.1.2.2.1 ≤ 0 ∧ 0 ≤ r.2.1.2.2.2.1 ∧ r.2.1.2.2.2.1 ≤ 0 ∧ (r.2.1.2.2.2.2.2.1.size : Int) ≤ 0 ∧ (r.2.1.2.2.2.2.2.2.1.length : Int) ≤ 0 ∧ True) ?_ ?_
          · refine EvP.sel (fun c47 => ?_) (fun c47 => ?_)
            · exact EvP.some ⟨(by (try dsimp only); omega), (by (try dsimp only); omega), (by (try dsimp only); omega), (by (try dsimp only); omega), (by (try dsimp only); omega), (by (try dsimp only); omega), (by (try dsimp only); omega), (by (try dsimp only); omega), (by (try dsimp only); omega), (by (try dsimp only); omega), trivial⟩
            · refine EvP.neg (by omega) ?_
              exact EvP.some ⟨(by (try dsimp only); omega), (by (try dsimp only); omega), (by (try dsimp only); omega), (by (try dsimp only); omega), (by (try dsimp only); omega), (by (try dsimp only); omega), (by (try dsimp only); omega), (by (try dsimp only); omega), (by (try dsimp only); omega), (by (try dsimp only); omega), trivial⟩
          · intro j9 q49
            obtain ⟨p50, p51, p52, p53, p54, p55, p56, p57, p58, p59, -⟩ := q49
            refine EvP.sel (fun c60 => ?_) (fun c60 => ?_)
            · exact EvP.some trivial
            · refine EvP.neg (by omega) ?_
              refine EvP.neg (by omega) ?_
              refine EvP.neg (by omega) ?_
              exact EvP.some trivial

theorem spec_l1Size_s {n : Int} (h0 : 0 ≤ n) (h1 : n ≤ 1) : EvP (fun N => spec_l1Size N n) (fun r => 1 ≤ r.1.1 ∧ r.1.1 ≤ 1 ∧ True) := by
  refine EvP.of (fun N => spec_l1Size.eq N _) ?_
  refine EvP.pos (by omega) ?_
  exact EvP.some ⟨(by (try dsimp only); omega), (by (try dsimp only); omega), trivial⟩

theorem spec_l1Fixed_l0_s (d : Nat) : ∀ (t : Int) (n1 : Int) (k : Int) (p0 : (List Int)), 0 ≤ t → t ≤ 1 → t + (k - 0 + 1) ≤ 1 → k - 0 + 1 ≤ (d : Int) → 0 ≤ n1 → n1 ≤ 1 → (-2) ≤ k → k ≤ 0 → (p0.length : Int) ≤ t → (∀ y ∈ p0, 0 ≤ y ∧ y ≤ 255) → EvP (fun N => spec_l1Fixed.l0 N n1 k p0) (fun r => (r.2.1.length : Int) ≤ 1 ∧ (∀ y ∈ r.2.1, 0 ≤ y ∧ y ≤ 255) ∧ True) := by
  induction d with
  | zero =>
    intro t n1 k p0 t0 t1 t2 t3 h0 h1 h2 h3 h4 h5
    refine EvP.step (fun N => spec_l1Fixed.l0.eq N _ _ _) ?_
    refine EvP.ite (fun c1 => ?_) (fun c1 => ?_)
    · have f2 := i64w (n := (8 * k)) (by omega) (by omega)
      have f3 := u64i (n := (IntKind.i64.wrap (8 * k))) (by omega) (by omega)
      refine EvP.chk (decide_eq_true (by omega)) ?_
      refine EvP.chk (decide_eq_true (by unfold most; omega)) ?_
      omega
    · exact EvP.some ⟨(by (try dsimp only); omega), h5, trivial⟩
  | succ d ih =>
    intro t n1 k p0 t0 t1 t2 t3 h0 h1 h2 h3 h4 h5
    refine EvP.step (fun N => spec_l1Fixed.l0.eq N _ _ _) ?_
    refine EvP.ite (fun c1 => ?_) (fun c1 => ?_)
    · have f2 := i64w (n := (8 * k)) (by omega) (by omega)
      have f3 := u64i (n := (IntKind.i64.wrap (8 * k))) (by omega) (by omega)
      refine EvP.chk (decide_eq_true (by omega)) ?_
      refine EvP.chk (decide_eq_true (by unfold most; omega)) ?_
      have f4 := i64w (n := (k - 1)) (by omega) (by omega)
      have f5 : ([(IntKind.u8.wrap (shrI .i64 n1 (IntKind.u64.wrap (IntKind.i64.wrap (8 * k)))))] : List Int).length = 1 := rfl
      have f6 := u8_range ((shrI .i64 n1 (IntKind.u64.wrap (IntKind.i64.wrap (8 * k)))))
      have f7 : (p0 ++ [(IntKind.u8.wrap (shrI .i64 n1 (IntKind.u64.wrap (IntKind.i64.wrap (8 * k)))))]).length = p0.length + [(IntKind.u8.wrap (shrI .i64 n1 (IntKind.u64.wrap (IntKind.i64.wrap (8 * k)))))].length := List.length_append
      exact ih (t + 1) _ _ _ (by omega) (by omega) (by omega) (by omega) (by omega) (by omega) (by omega) (by omega) (by omega) (all_app h5 (all_cons ⟨(by (try dsimp only); omega), (by (try dsimp only); omega)⟩ all_nil))
    · exact EvP.some ⟨(by (try dsimp only); omega), h5, trivial⟩

theorem spec_l1Fixed_s {n : Int} {many : Int} (h0 : 0 ≤ n) (h1 : n ≤ 1) (h2 : 1 ≤ many) (h3 : many ≤ 1) : EvP (fun N => spec_l1Fixed N n many) (fun r => (r.1.1.size : Int) ≤ 1 ∧ True) := by
  refine EvP.of (fun N => spec_l1Fixed.eq N _ _) ?_
  have f1 := i64w (n := (many - 1)) (by omega) (by omega)
  have f2 : ([] : List Int).length = 0 := rfl
  refine EvP.andK (spec_l1Fixed_l0_s 1 0 _ _ _ (by omega) (by omega) (by omega) (by omega) (by omega) (by omega) (by omega) (by omega) (by omega) all_nil) ?_
  intro l1 q3
  obtain ⟨p4, p5, -⟩ := q3
  have f6 := strL_size l1.2.1
  exact EvP.some ⟨(by (try dsimp only); omega), trivial⟩

theorem spec_l1Fixed_l0_s2 (d : Nat) : ∀ (t : Int) (n1 : Int) (k : Int) (p0 : (List Int)), 0 ≤ t → t ≤ 8 → t + (k - 0 + 1) ≤ 8 → k - 0 + 1 ≤ (d : Int) → (-9223372036854775808) ≤ n1 → n1 ≤ 9223372036854775807 → (-2) ≤ k → k ≤ 7 → (p0.length : Int) ≤ t → (∀ y ∈ p0, 0 ≤ y ∧ y ≤ 255) → EvP (fun N => spec_l1Fixed.l0 N n1 k p0) (fun r => (r.2.1.length : Int) ≤ 8 ∧ (∀ y ∈ r.2.1, 0 ≤ y ∧ y ≤ 255) ∧ True) := by
  induction d with
  | zero =>
    intro t n1 k p0 t0 t1 t2 t3 h0 h1 h2 h3 h4 h5
    refine EvP.step (fun N => spec_l1Fixed.l0.eq N _ _ _) ?_
    refine EvP.ite (fun c1 => ?_) (fun c1 => ?_)
    · have f2 := i64w (n := (8 * k)) (by omega) (by omega)
      have f3 := u64i (n := (IntKind.i64.wrap (8 * k))) (by omega) (by omega)
      refine EvP.chk (decide_eq_true (by omega)) ?_
      refine EvP.chk (decide_eq_true (by unfold most; omega)) ?_
      omega
    · exact EvP.some ⟨(by (try dsimp only); omega), h5, trivial⟩
  | succ d ih =>
    intro t n1 k p0 t0 t1 t2 t3 h0 h1 h2 h3 h4 h5
    refine EvP.step (fun N => spec_l1Fixed.l0.eq N _ _ _) ?_
    refine EvP.ite (fun c1 => ?_) (fun c1 => ?_)
    · have f2 := i64w (n := (8 * k)) (by omega) (by omega)
      have f3 := u64i (n := (IntKind.i64.wrap (8 * k))) (by omega) (by omega)
      refine EvP.chk (decide_eq_true (by omega)) ?_
      refine EvP.chk (decide_eq_true (by unfold most; omega)) ?_
      have f4 := i64w (n := (k - 1)) (by omega) (by omega)
      have f5 : ([(IntKind.u8.wrap (shrI .i64 n1 (IntKind.u64.wrap (IntKind.i64.wrap (8 * k)))))] : List Int).length = 1 := rfl
      have f6 := u8_range ((shrI .i64 n1 (IntKind.u64.wrap (IntKind.i64.wrap (8 * k)))))
      have f7 : (p0 ++ [(IntKind.u8.wrap (shrI .i64 n1 (IntKind.u64.wrap (IntKind.i64.wrap (8 * k)))))]).length = p0.length + [(IntKind.u8.wrap (shrI .i64 n1 (IntKind.u64.wrap (IntKind.i64.wrap (8 * k)))))].length := List.length_append
      exact ih (t + 1) _ _ _ (by omega) (by omega) (by omega) (by omega) (by omega) (by omega) (by omega) (by omega) (by omega) (all_app h5 (all_cons ⟨(by (try dsimp only); omega), (by (try dsimp only); omega)⟩ all_nil))
    · exact EvP.some ⟨(by (try dsimp only); omega), h5, trivial⟩

theorem spec_l1Fixed_s2 {n : Int} {many : Int} (h0 : (-9223372036854775808) ≤ n) (h1 : n ≤ 9223372036854775807) (h2 : 8 ≤ many) (h3 : many ≤ 8) : EvP (fun N => spec_l1Fixed N n many) (fun r => (r.1.1.size : Int) ≤ 8 ∧ True) := by
  refine EvP.of (fun N => spec_l1Fixed.eq N _ _) ?_
  have f1 := i64w (n := (many - 1)) (by omega) (by omega)
  have f2 : ([] : List Int).length = 0 := rfl
  refine EvP.andK (spec_l1Fixed_l0_s2 8 0 _ _ _ (by omega) (by omega) (by omega) (by omega) (by omega) (by omega) (by omega) (by omega) (by omega) all_nil) ?_
  intro l1 q3
  obtain ⟨p4, p5, -⟩ := q3
  have f6 := strL_size l1.2.1
  exact EvP.some ⟨(by (try dsimp only); omega), trivial⟩

theorem spec_l1Var_s {n : Int} (h0 : 0 ≤ n) (h1 : n ≤ 1) : EvP (fun N => spec_l1Var N n) (fun r => (r.1.1.size : Int) ≤ 8 ∧ True) := by
  refine EvP.of (fun N => spec_l1Var.eq N _) ?_
  refine EvP.andK (spec_l1Size_s (by omega) (by omega)) ?_
  intro u1 q1
  obtain ⟨p2, p3, -⟩ := q1
  refine EvP.ite (fun c4 => ?_) (fun c4 => ?_)
  · refine EvP.andK (spec_l1Fixed_s (by omega) (by omega) (by omega) (by omega)) ?_
    intro u2 q5
    obtain ⟨p6, -⟩ := q5
    exact EvP.some ⟨(by (try dsimp only); omega), trivial⟩
  · refine EvP.neg (by omega) ?_
    refine EvP.neg (by omega) ?_
    have f9 : (-9223372036854775808) ≤ (Go.bits .or .i64 n (-4611686018427387904)) ∧ (Go.bits .or .i64 n (-4611686018427387904)) ≤ 9223372036854775807 := bits_range .or .i64 n (-4611686018427387904) (by decide)
    refine EvP.andK (spec_l1Fixed_s2 (by omega) (by omega) (by omega) (by omega)) ?_
    intro u5 q10
    obtain ⟨p11, -⟩ := q10
    exact EvP.some ⟨(by (try dsimp only); omega), trivial⟩

theorem spec_l1Size_s2 {n : Int} (h0 : 0 ≤ n) (h1 : n ≤ 0) : EvP (fun N => spec_l1Size N n) (fun r => 1 ≤ r.1.1 ∧ r.1.1 ≤ 1 ∧ True) := by
  refine EvP.of (fun N => spec_l1Size.eq N _) ?_
  refine EvP.pos (by omega) ?_
  exact EvP.some ⟨(by (try dsimp only); omega), (by (try dsimp only); omega), trivial⟩

theorem spec_l1Fixed_l0_s3 (d : Nat) : ∀ (t : Int) (n1 : Int) (k : Int) (p0 : (List Int)), 0 ≤ t → t ≤ 1 → t + (k - 0 + 1) ≤ 1 → k - 0 + 1 ≤ (d : Int) → 0 ≤ n1 → n1 ≤ 0 → (-2) ≤ k → k ≤ 0 → (p0.length : Int) ≤ t → (∀ y ∈ p0, 0 ≤ y ∧ y ≤ 255) → EvP (fun N => spec_l1Fixed.l0 N n1 k p0) (fun r => (r.2.1.length : Int) ≤ 1 ∧ (∀ y ∈ r.2.1, 0 ≤ y ∧ y ≤ 255) ∧ True) := by
  induction d with
  | zero =>
    intro t n1 k p0 t0 t1 t2 t3 h0 h1 h2 h3 h4 h5
    refine EvP.step (fun N => spec_l1Fixed.l0.eq N _ _ _) ?_
    refine EvP.ite (fun c1 => ?_) (fun c1 => ?_)
    · have f2 := i64w (n := (8 * k)) (by omega) (by omega)
      have f3 := u64i (n := (IntKind.i64.wrap (8 * k))) (by omega) (by omega)
      refine EvP.chk (decide_eq_true (by omega)) ?_
      refine EvP.chk (decide_eq_true (by unfold most; omega)) ?_
      omega
    · exact EvP.some ⟨(by (try dsimp only); omega), h5, trivial⟩
  | succ d ih =>
    intro t n1 k p0 t0 t1 t2 t3 h0 h1 h2 h3 h4 h5
    refine EvP.step (fun N => spec_l1Fixed.l0.eq N _ _ _) ?_
    refine EvP.ite (fun c1 => ?_) (fun c1 => ?_)
    · have f2 := i64w (n := (8 * k)) (by omega) (by omega)
      have f3 := u64i (n := (IntKind.i64.wrap (8 * k))) (by omega) (by omega)
      refine EvP.chk (decide_eq_true (by omega)) ?_
      refine EvP.chk (decide_eq_true (by unfold most; omega)) ?_
      have f4 := i64w (n := (k - 1)) (by omega) (by omega)
      have f5 : ([(IntKind.u8.wrap (shrI .i64 n1 (IntKind.u64.wrap (IntKind.i64.wrap (8 * k)))))] : List Int).length = 1 := rfl
      have f6 := u8_range ((shrI .i64 n1 (IntKind.u64.wrap (IntKind.i64.wrap (8 * k)))))
      have f7 : (p0 ++ [(IntKind.u8.wrap (shrI .i64 n1 (IntKind.u64.wrap (IntKind.i64.wrap (8 * k)))))]).length = p0.length + [(IntKind.u8.wrap (shrI .i64 n1 (IntKind.u64.wrap (IntKind.i64.wrap (8 * k)))))].length := List.length_append
      exact ih (t + 1) _ _ _ (by omega) (by omega) (by omega) (by omega) (by omega) (by omega) (by omega) (by omega) (by omega) (all_app h5 (all_cons ⟨(by (try dsimp only); omega), (by (try dsimp only); omega)⟩ all_nil))
    · exact EvP.some ⟨(by (try dsimp only); omega), h5, trivial⟩

theorem spec_l1Fixed_s3 {n : Int} {many : Int} (h0 : 0 ≤ n) (h1 : n ≤ 0) (h2 : 1 ≤ many) (h3 : many ≤ 1) : EvP (fun N => spec_l1Fixed N n many) (fun r => (r.1.1.size : Int) ≤ 1 ∧ True) := by
  refine EvP.of (fun N => spec_l1Fixed.eq N _ _) ?_
  have f1 := i64w (n := (many - 1)) (by omega) (by omega)
  have f2 : ([] : List Int).length = 0 := rfl
  refine EvP.andK (spec_l1Fixed_l0_s3 1 0 _ _ _ (by omega) (by omega) (by omega) (by omega) (by omega) (by omega) (by omega) (by omega) (by omega) all_nil) ?_
  intro l1 q3
  obtain ⟨p4, p5, -⟩ := q3
  have f6 := strL_size l1.2.1
  exact EvP.some ⟨(by (try dsimp only); omega), trivial⟩

theorem spec_l1Var_s2 {n : Int} (h0 : 0 ≤ n) (h1 : n ≤ 0) : EvP (fun N => spec_l1Var N n) (fun r => (r.1.1.size : Int) ≤ 8 ∧ True) := by
  refine EvP.of (fun N => spec_l1Var.eq N _) ?_
  refine EvP.andK (spec_l1Size_s2 (by omega) (by omega)) ?_
  intro u1 q1
  obtain ⟨p2, p3, -⟩ := q1
  refine EvP.ite (fun c4 => ?_) (fun c4 => ?_)
  · refine EvP.andK (spec_l1Fixed_s3 (by omega) (by omega) (by omega) (by omega)) ?_
    intro u2 q5
    obtain ⟨p6, -⟩ := q5
    exact EvP.some ⟨(by (try dsimp only); omega), trivial⟩
  · refine EvP.neg (by omega) ?_
    refine EvP.neg (by omega) ?_
    have f9 : (-9223372036854775808) ≤ (Go.bits .or .i64 n (-4611686018427387904)) ∧ (Go.bits .or .i64 n (-4611686018427387904)) ≤ 9223372036854775807 := bits_range .or .i64 n (-4611686018427387904) (by decide)
    refine EvP.andK (spec_l1Fixed_s2 (by omega) (by omega) (by omega) (by omega)) ?_
    intro u5 q10
    obtain ⟨p11, -⟩ := q10
    exact EvP.some ⟨(by (try dsimp only); omega), trivial⟩

theorem spec_l1Bytes_s {G_0 : Int} {G_1 : Int} {G_2 : Int} {G_3 : Int} {G_4 : Bool} {G_5 : ByteArray} {G_6 : (List (Int × Int))} (h0 : 0 ≤ G_0) (h1 : G_0 ≤ 1) (h2 : 0 ≤ G_1) (h3 : G_1 ≤ 0) (h4 : 0 ≤ G_2) (h5 : G_2 ≤ 0) (h6 : 0 ≤ G_3) (h7 : G_3 ≤ 0) (h8 : (G_5.size : Int) ≤ 0) (h9 : (G_6.length : Int) ≤ 0) : EvP (fun N => spec_l1Bytes N G_0 G_1 G_2 G_3 G_4 G_5 G_6) (fun r => (r.1.1.size : Int) ≤ 8 ∧ True) := by
  refine EvP.of (fun N => spec_l1Bytes.eq N _ _ _ _ _ _ _) ?_
  refine EvP.andK (spec_l1Var_s (by omega) (by omega)) ?_
  intro u1 q1
  obtain ⟨p2, -⟩ := q1
  refine EvP.andK (spec_l1Var_s2 (by omega) (by omega)) ?_
  intro u2 q3
  obtain ⟨p4, -⟩ := q3
  refine EvP.chk (decide_eq_true (by omega)) ?_
  refine EvP.neg (by omega) ?_
  refine EvP.neg (by omega) ?_
  refine EvP.neg (by omega) ?_
  refine EvP.neg (by omega) ?_
  refine EvP.neg (by omega) ?_
  refine EvP.neg (by omega) ?_
  refine EvP.neg (by omega) ?_
  refine EvP.neg (by omega) ?_
  refine EvP.neg (by omega) ?_
  refine EvP.neg (by omega) ?_
  refine EvP.neg (by omega) ?_
  refine EvP.neg (by omega) ?_
  refine EvP.neg (by omega) ?_
  exact EvP.some ⟨(by (try dsimp only); omega), trivial⟩

theorem spec_FramesBytes_l0_s (d : Nat) : ∀ (t : Int) (t10 : (List (Int × (Int × (Int × (Int × (Bool × (ByteArray × (List (Int × Int)))))))))) (t11 : Int) (s : ByteArray) (t12 : Int), 0 ≤ t → t ≤ 1 → t + (t11 - t12) ≤ 1 → t11 - t12 ≤ (d : Int) → (t10.length : Int) ≤ 1 → (∀ y ∈ t10, 1 ≤ y.1 ∧ y.1 ≤ 1 ∧ 0 ≤ y.2.1 ∧ y.2.1 ≤ 0 ∧ 0 ≤ y.2.2.1 ∧ y.2.2.1 ≤ 0 ∧ 0 ≤ y.2.2.2.1 ∧ y.2.2.2.1 ≤ 0 ∧ (y.2.2.2.2.2.1.size : Int) ≤ 0 ∧ (y.2.2.2.2.2.2.length : Int) ≤ 0) → 0 ≤ t11 → t11 ≤ 1 → (s.size : Int) ≤ 8 * t → 0 ≤ t12 → t12 ≤ 2 → t11 = (t10.length : Int) → EvP (fun N => spec_FramesBytes.l0 N t10 t11 s t12) (fun r => (∀ x, r = .inl x → (x.1.1.size : Int) ≤ 0 ∧ True) ∧ (∀ x, r = .inr x → (x.1.1.size : Int) ≤ 8 ∧ True)) := by
  induction d with
  | zero =>
    intro t t10 t11 s t12 t0 t1 t2 t3 h0 h1 h2 h3 h4 h5 h6 e0
    refine EvP.step (fun N => spec_FramesBytes.l0.eq N _ _ _ _) ?_
    refine EvP.ite (fun c1 => ?_) (fun c1 => ?_)
    · refine EvP.chk (and_i (decide_eq_true (by omega)) (decide_eq_true (by omega))) ?_
      have g2 := rdS_all ((.pair (.int .i64) (.pair (.int .i64) (.pair (.int .i64) (.pair (.int .i64) (.pair .bool (.pair .str (.rows (.pair (.int .i64) (.int .i64)))))))))) (P := fun (y : (Int × (Int × (Int × (Int × (Bool × (ByteArray × (List (Int × Int))))))))) => 0 ≤ y.1 ∧ y.1 ≤ 1 ∧ 0 ≤ y.2.1 ∧ y.2.1 ≤ 0 ∧ 0 ≤ y.2.2.1 ∧ y.2.2.1 ≤ 0 ∧ 0 ≤ y.2.2.2.1 ∧ y.2.2.2.1 ≤ 0 ∧ (y.2.2.2.2.2.1.size : Int) ≤ 0 ∧ (y.2.2.2.2.2.2.length : Int) ≤ 0) (fun y hy => by have q := h1 y hy; (try dsimp only at q ⊢); omega) (Int.toNat t12) (by simp [Sh.dflt])
      obtain ⟨g3, g4, g5, g6, g7, g8, g9, g10, g11, g12⟩ := g2
      refine EvP.andK (spec_GoodFrame_s (by omega) (by omega) (by omega) (by omega) (by omega) (by omega) (by omega) (by omega) (by omega) (by omega)) ?_
      intro u1 q13
      refine EvP.sel (fun c14 => ?_) (fun c14 => ?_)
      · have f15 : (⟨#[]⟩ : ByteArray).size = 0 := rfl
        exact EvP.some ⟨(fun x e => by cases e; exact ⟨(by (try dsimp only); omega), trivial⟩), (fun x e => by cases e)⟩
      · refine EvP.andK (spec_l1Bytes_s (by omega) (by omega) (by omega) (by omega) (by omega) (by omega) (by omega) (by omega) (by omega) (by omega)) ?_
        intro u2 q16
        obtain ⟨p17, -⟩ := q16
        refine EvP.chk (decide_eq_true (by omega)) ?_
        omega
    · exact EvP.some ⟨(fun x e => by cases e), (fun x e => by cases e; exact ⟨(by (try dsimp only); omega), trivial⟩)⟩
  | succ d ih =>
    intro t t10 t11 s t12 t0 t1 t2 t3 h0 h1 h2 h3 h4 h5 h6 e0
    refine EvP.step (fun N => spec_FramesBytes.l0.eq N _ _ _ _) ?_
    refine EvP.ite (fun c1 => ?_) (fun c1 => ?_)
    · refine EvP.chk (and_i (decide_eq_true (by omega)) (decide_eq_true (by omega))) ?_
      have g2 := rdS_all ((.pair (.int .i64) (.pair (.int .i64) (.pair (.int .i64) (.pair (.int .i64) (.pair .bool (.pair .str (.rows (.pair (.int .i64) (.int .i64)))))))))) (P := fun (y : (Int × (Int × (Int × (Int × (Bool × (ByteArray × (List (Int × Int))))))))) => 0 ≤ y.1 ∧ y.1 ≤ 1 ∧ 0 ≤ y.2.1 ∧ y.2.1 ≤ 0 ∧ 0 ≤ y.2.2.1 ∧ y.2.2.1 ≤ 0 ∧ 0 ≤ y.2.2.2.1 ∧ y.2.2.2.1 ≤ 0 ∧ (y.2.2.2.2.2.1.size : Int) ≤ 0 ∧ (y.2.2.2.2.2.2.length : Int) ≤ 0) (fun y hy => by have q := h1 y hy; (try dsimp only at q ⊢); omega) (Int.toNat t12) (by simp [Sh.dflt])
      obtain ⟨g3, g4, g5, g6, g7, g8, g9, g10, g11, g12⟩ := g2
      refine EvP.andK (spec_GoodFrame_s (by omega) (by omega) (by omega) (by omega) (by omega) (by omega) (by omega) (by omega) (by omega) (by omega)) ?_
      intro u1 q13
      refine EvP.sel (fun c14 => ?_) (fun c14 => ?_)
      · have f15 : (⟨#[]⟩ : ByteArray).size = 0 := rfl
        exact EvP.some ⟨(fun x e => by cases e; exact ⟨(by (try dsimp only); omega), trivial⟩), (fun x e => by cases e)⟩
      · refine EvP.andK (spec_l1Bytes_s (by omega) (by omega) (by omega) (by omega) (by omega) (by omega) (by omega) (by omega) (by omega) (by omega)) ?_
        intro u2 q16
        obtain ⟨p17, -⟩ := q16
        refine EvP.chk (decide_eq_true (by omega)) ?_
        have f18 : (s ++ u2.1.1).size = s.size + u2.1.1.size := ByteArray.size_append
        have f19 := i64w (n := (t12 + 1)) (by omega) (by omega)
        exact ih (t + 1) _ _ _ _ (by omega) (by omega) (by omega) (by omega) (by omega) h1 (by omega) (by omega) (by omega) (by omega) (by omega) (by omega)
    · exact EvP.some ⟨(fun x e => by cases e), (fun x e => by cases e; exact ⟨(by (try dsimp only); omega), trivial⟩)⟩

theorem spec_FramesBytes_s {l : (List (Int × (Int × (Int × (Int × (Bool × (ByteArray × (List (Int × Int)))))))))} (h0 : (l.length : Int) ≤ 1) (h1 : ∀ y ∈ l, 1 ≤ y.1 ∧ y.1 ≤ 1 ∧ 0 ≤ y.2.1 ∧ y.2.1 ≤ 0 ∧ 0 ≤ y.2.2.1 ∧ y.2.2.1 ≤ 0 ∧ 0 ≤ y.2.2.2.1 ∧ y.2.2.2.1 ≤ 0 ∧ (y.2.2.2.2.2.1.size : Int) ≤ 0 ∧ (y.2.2.2.2.2.2.length : Int) ≤ 0) : EvP (fun N => spec_FramesBytes N l) (fun r => (r.1.1.size : Int) ≤ 8 ∧ True) := by
  refine EvP.of (fun N => spec_FramesBytes.eq N _) ?_
  refine EvP.neg (by omega) ?_
  have f2 : (⟨#[]⟩ : ByteArray).size = 0 := rfl
  refine EvP.andK (spec_FramesBytes_l0_s 1 0 _ _ _ _ (by omega) (by omega) (by omega) (by omega) (by omega) h1 (by omega) (by omega) (by omega) (by omega) (by omega) (by omega)) ?_
  intro l3 q3
  refine EvP.or (fun x4 e4 => ?_) (fun x5 e5 => ?_)
  · have r6 := q3.1 x4 (by rw [e4])
    obtain ⟨p7, -⟩ := r6
    exact EvP.some ⟨(by (try dsimp only); omega), trivial⟩
  · have r8 := q3.2 x5 (by rw [e5])
    obtain ⟨p9, -⟩ := r8
    refine EvP.neg (by omega) ?_
    exact EvP.some ⟨(by (try dsimp only); omega), trivial⟩

theorem spec_l1Cur_packet_s {b : Int} {p0_0 : (List Int)} {p0_1 : Int} {p0_2 : Int} (h0 : ∀ y ∈ p0_0, 0 ≤ y ∧ y ≤ 255) (h1 : 0 ≤ p0_1) (h2 : p0_1 ≤ b) (hb : b ≤ 4611686018423999874) : EvP (fun N => spec_l1Cur_packet N p0_0 p0_1 p0_2) (fun r => 0 ≤ r.1.1.1 ∧ r.1.1.1 ≤ 5 ∧ 0 ≤ r.1.1.2.1 ∧ r.1.1.2.1 ≤ 15 ∧ 0 ≤ r.1.1.2.2.1 ∧ r.1.1.2.2.1 ≤ 1 ∧ (r.1.1.2.2.2.1.size : Int) ≤ 21 ∧ (r.1.1.2.2.2.2.1.size : Int) ≤ 21 ∧ (r.1.1.2.2.2.2.2.1.size : Int) ≤ 5 ∧ (r.1.1.2.2.2.2.2.2.1.size : Int) ≤ 0 ∧ 0 ≤ r.1.2.1 ∧ r.1.2.1 ≤ 4611686018427387903 ∧ (-300) ≤ r.1.2.2.1 ∧ r.1.2.2.1 ≤ 4611686018427387902 ∧ (r.1.2.2.2.1.size : Int) ≤ 39 ∧ (∀ y ∈ r.2.1.1, 0 ≤ y ∧ y ≤ 255) ∧ 0 ≤ r.2.1.2.1 ∧ r.2.1.2.1 ≤ (b + 204) ∧ True) := by
  refine EvP.of (fun N => spec_l1Cur_packet.eq N _ _ _) ?_
  have f1 : ([0, 0, 1, 2, 5, 5, 5, 3] : List Int).length = 8 := rfl
  refine EvP.andK (among_s (b := b) (P := fun y => 0 ≤ y ∧ y ≤ 5) (all_cons ⟨(by (try dsimp only); omega), (by (try dsimp only); omega)⟩ (all_cons ⟨(by (try dsimp only); omega), (by (try dsimp only); omega)⟩ (all_cons ⟨(by (try dsimp only); omega), (by (try dsimp only); omega)⟩ (all_cons ⟨(by (try dsimp only); omega), (by (try dsimp only); omega)⟩ (all_cons ⟨(by (try dsimp only); omega), (by (try dsimp only); omega)⟩ (all_cons ⟨(by (try dsimp only); omega), (by (try dsimp only); omega)⟩ (all_cons ⟨(by (try dsimp only); omega), (by (try dsimp only); omega)⟩ (all_cons ⟨(by (try dsimp only); omega), (by (try dsimp only); omega)⟩ all_nil)))))))) (by decide) h0 (by omega) (by omega) (by omega)) ?_
  intro u1 q2
  obtain ⟨q3, q4⟩ := q2
  obtain ⟨p5, p6⟩ := q3
  obtain ⟨p7, p8, p9, -⟩ := q4
  refine EvP.andK (spec_l1Cur_id_s (b := (b + 2)) p7 (by omega) (by omega) (by omega)) ?_
  intro u2 q10
  obtain ⟨p11, p12, p13, p14, -⟩ := q10
  refine EvP.andK (Q := fun r => (∀ y ∈ r.2.1.1, 0 ≤ y ∧ y ≤ 255) ∧ 0 ≤ r.2.1.2.1 ∧ r.2.1.2.1 ≤ (b + 98) ∧ 0 ≤ r.2.2.1.1 ∧ r.2.2.1.1 ≤ 0 ∧ 0 ≤ r.2.2.1.2.1 ∧ r.2.2.1.2.1 ≤ 0 ∧ 0 ≤ r.2.2.1.2.2.1 ∧ r.2.2.1.2.2.1 ≤ 0 ∧ (r.2.2.1.2.2.2.1.size : Int) ≤ 0 ∧ (r.2.2.1.2.2.2.2.1.size : Int) ≤ 0 ∧ (r.2.2.1.2.2.2.2.2.1.size : Int) ≤ 0 ∧ (r.2.2.1.2.2.2.2.2.2.1.size : Int) ≤ 0 ∧ 0 ≤ r.2.2.2.1.1 ∧ r.2.2.2.1.1 ≤ 5 ∧ 0 ≤ r.2.2.2.1.2.1 ∧ r.2.2.2.1.2.1 ≤ 4 ∧ 0 ≤ r.2.2.2.1.2.2.1 ∧ r.2.2.2.1.2.2.1 ≤ 1 ∧ (r.2.2.2.1.2.2.2.1.size : Int) ≤ 21 ∧ (r.2.2.2.1.2.2.2.2.1.size : Int) ≤ 21 ∧ (r.2.2.2.1.2.2.2.2.2.1.size : Int) ≤ 0 ∧ (r.2.2.2.1.2.2.2.2.2.2.1.size : Int) ≤ 0 ∧ True) ?_ ?_
  · refine EvP.nite (fun c15 => ?_) (fun c15 => ?_)
    · refine EvP.andK (spec_l1Cur_id_s (b := (b + 50)) p12 (by omega) (by omega) (by omega)) ?_
      intro u3 q16
      obtain ⟨p17, p18, p19, p20, -⟩ := q16
      have f21 : (⟨#[]⟩ : ByteArray).size = 0 := rfl
      exact EvP.some ⟨p18, (by (try dsimp only); omega), (by (try dsimp only); omega), (by (try dsimp only); omega), (by (try dsimp only); omega), (by (try dsimp only); omega), (by (try dsimp only); omega), (by (try dsimp only); omega), (by (try dsimp only); omega), (by (try dsimp only); omega), (by (try dsimp only); omega), (by (try dsimp only); omega), (by (try dsimp only); omega), (by (try dsimp only); omega), (by (try dsimp only); omega), (by (try dsimp only); omega), (by (try dsimp only); omega), (by (try dsimp only); omega), (by (try dsimp only); omega), (by (try dsimp only); omega), (by (try dsimp only); omega), (by (try dsimp only); omega), (by (try dsimp only); omega), trivial⟩
    · refine EvP.andK (one_s (b := (b + 50)) p12 (by omega) (by omega) (by omega)) ?_
      intro u4 q22
      obtain ⟨p23, p24, p25, -⟩ := q22
      refine EvP.sel (fun c26 => ?_) (fun c26 => ?_)
      · have f27 : (⟨#[]⟩ : ByteArray).size = 0 := rfl
        exact EvP.some ⟨p23, (by (try dsimp only); omega), (by (try dsimp only); omega), (by (try dsimp only); omega), (by (try dsimp only); omega), (by (try dsimp only); omega), (by (try dsimp only); omega), (by (try dsimp only); omega), (by (try dsimp only); omega), (by (try dsimp only); omega), (by (try dsimp only); omega), (by (try dsimp only); omega), (by (try dsimp only); omega), (by (try dsimp only); omega), (by (try dsimp only); omega), (by (try dsimp only); omega), (by (try dsimp only); omega), (by (try dsimp only); omega), (by (try dsimp only); omega), (by (try dsimp only); omega), (by (try dsimp only); omega), (by (try dsimp only); omega), (by (try dsimp only); omega), trivial⟩
      · have f28 : (⟨#[]⟩ : ByteArray).size = 0 := rfl
        exact EvP.some ⟨p23, (by (try dsimp only); omega), (by (try dsimp only); omega), (by (try dsimp only); omega), (by (try dsimp only); omega), (by (try dsimp only); omega), (by (try dsimp only); omega), (by (try dsimp only); omega), (by (try dsimp only); omega), (by (try dsimp only); omega), (by (try dsimp only); omega), (by (try dsimp only); omega), (by (try dsimp only); omega), (by (try dsimp only); omega), (by (try dsimp only); omega), (by (try dsimp only); omega), (by (try dsimp only); omega), (by (try dsimp only); omega), (by (try dsimp only); omega), (by (try dsimp only); omega), (by (try dsimp only); omega), (by (try dsimp only); omega), (by (try dsimp only); omega), trivial⟩
  · intro j5 q29
    obtain ⟨p30, p31, p32, p33, p34, p35, p36, p37, p38, p39, p40, p41, p42, p43, p44, p45, p46, p47, p48, p49, p50, p51, p52, -⟩ := q29
    refine EvP.andK (Q := fun r => (∀ y ∈ r.2.1.1, 0 ≤ y ∧ y ≤ 255) ∧ 0 ≤ r.2.1.2.1 ∧ r.2.1.2.1 ≤ (b + 100) ∧ 0 ≤ r.2.2.1.1 ∧ r.2.2.1.1 ≤ 0 ∧ 0 ≤ r.2.2.1.2.1 ∧ r.2.2.1.2.1 ≤ 0 ∧ 0 ≤ r.2.2.1.2.2.1 ∧ r.2.2.1.2.2.1 ≤ 0 ∧ (r.2.2.1.2.2.2.1.size : Int) ≤ 0 ∧ (r.2.2.1.2.2.2.2.1.size : Int) ≤ 0 ∧ (r.2.2.1.2.2.2.2.2.1.size : Int) ≤ 0 ∧ (r.2.2.1.2.2.2.2.2.2.1.size : Int) ≤ 0 ∧ 0 ≤ r.2.2.2.1.1 ∧ r.2.2.2.1.1 ≤ 5 ∧ 0 ≤ r.2.2.2.1.2.1 ∧ r.2.2.2.1.2.1 ≤ 4 ∧ 0 ≤ r.2.2.2.1.2.2.1 ∧ r.2.2.2.1.2.2.1 ≤ 1 ∧ (r.2.2.2.1.2.2.2.1.size : Int) ≤ 21 ∧ (r.2.2.2.1.2.2.2.2.1.size : Int) ≤ 21 ∧ (r.2.2.2.1.2.2.2.2.2.1.size : Int) ≤ 5 ∧ (r.2.2.2.1.2.2.2.2.2.2.1.size : Int) ≤ 0 ∧ True) ?_ ?_
    · refine EvP.andK (Q := fun r => (∀ y ∈ r.2.1.1, 0 ≤ y ∧ y ≤ 255) ∧ 0 ≤ r.2.1.2.1 ∧ r.2.1.2.1 ≤ (b + 100) ∧ 0 ≤ r.2.2.1.1 ∧ r.2.2.1.1 ≤ 0 ∧ 0 ≤ r.2.2.1.2.1 ∧ r.2.2.1.2.1 ≤ 0 ∧ 0 ≤ r.2.2.1.2.2.1 ∧ r.2.2.1.2.2.1 ≤ 0 ∧ (r.2.2.1.2.2.2.1.size : Int) ≤ 0 ∧ (r.2.2.1.2.2.2.2.1.size : Int) ≤ 0 ∧ (r.2.2.1.2.2.2.2.2.1.size : Int) ≤ 0 ∧ (r.2.2.1.2.2.2.2.2.2.1.size : Int) ≤ 0 ∧ 0 ≤ r.2.2.2.1.1 ∧ r.2.2.2.1.1 ≤ 5 ∧ 0 ≤ r.2.2.2.1.2.1 ∧ r.2.2.2.1.2.1 ≤ 4 ∧ 0 ≤ r.2.2.2.1.2.2.1 ∧ r.2.2.2.1.2.2.1 ≤ 1 ∧ (r.2.2.2.1.2.2.2.1.size : Int) ≤ 21 ∧ (r.2.2.2.1.2.2.2.2.1.size : Int) ≤ 21 ∧ (r.2.2.2.1.2.2.2.2.2.1.size : Int) ≤ 0 ∧ (r.2.2.2.1.2.2.2.2.2.2.1.size : Int) ≤ 0 ∧ True) ?_ ?_
      · refine EvP.ite (fun c53 => ?_) (fun c53 => ?_)
        · refine EvP.andK (one_s (b := (b + 98)) p30 (by omega) (by omega) (by omega)) ?_
          intro u6 q54
          obtain ⟨p55, p56, p57, -⟩ := q54
          exact EvP.some ⟨p55, (by (try dsimp only); omega), (by (try dsimp only); omega), (by (try dsimp only); omega), (by (try dsimp only); omega), (by (try dsimp only); omega), (by (try dsimp only); omega), (by (try dsimp only); omega), (by (try dsimp only); omega), (by (try dsimp only); omega), (by (try dsimp only); omega), (by (try dsimp only); omega), (by (try dsimp only); omega), (by (try dsimp only); omega), (by (try dsimp only); omega), (by (try dsimp only); omega), (by (try dsimp only); omega), (by (try dsimp only); omega), (by (try dsimp only); omega), (by (try dsimp only); omega), (by (try dsimp only); omega), (by (try dsimp only); omega), (by (try dsimp only); omega), trivial⟩
        · exact EvP.some ⟨p30, (by (try dsimp only); omega), (by (try dsimp only); omega), (by (try dsimp only); omega), (by (try dsimp only); omega), (by (try dsimp only); omega), (by (try dsimp only); omega), (by (try dsimp only); omega), (by (try dsimp only); omega), (by (try dsimp only); omega), (by (try dsimp only); omega), (by (try dsimp only); omega), (by (try dsimp only); omega), (by (try dsimp only); omega), (by (try dsimp only); omega), (by (try dsimp only); omega), (by (try dsimp only); omega), (by (try dsimp only); omega), (by (try dsimp only); omega), (by (try dsimp only); omega), (by (try dsimp only); omega), (by (try dsimp only); omega), (by (try dsimp only); omega), trivial⟩
      · intro j7 q58
        obtain ⟨p59, p60, p61, p62, p63, p64, p65, p66, p67, p68, p69, p70, p71, p72, p73, p74, p75, p76, p77, p78, p79, p80, p81, -⟩ := q58
        refine EvP.sel (fun c82 => ?_) (fun c82 => ?_)
        · have f83 : (⟨#[116, 111, 107, 101, 110]⟩ : ByteArray).size = 5 := rfl
          exact EvP.some ⟨p59, (by (try dsimp only); omega), (by (try dsimp only); omega), (by (try dsimp only); omega), (by (try dsimp only); omega), (by (try dsimp only); omega), (by (try dsimp only); omega), (by (try dsimp only); omega), (by (try dsimp only); omega), (by (try dsimp only); omega), (by (try dsimp only); omega), (by (try dsimp only); omega), (by (try dsimp only); omega), (by (try dsimp only); omega), (by (try dsimp only); omega), (by (try dsimp only); omega), (by (try dsimp only); omega), (by (try dsimp only); omega), (by (try dsimp only); omega), (by (try dsimp only); omega), (by (try dsimp only); omega), (by (try dsimp only); omega), (by (try dsimp only); omega), trivial⟩
        · exact EvP.some ⟨p59, (by (try dsimp only); omega), (by (try dsimp only); omega), (by (try dsimp only); omega), (by (try dsimp only); omega), (by (try dsimp only); omega), (by (try dsimp only); omega), (by (try dsimp only); omega), (by (try dsimp only); omega), (by (try dsimp only); omega), (by (try dsimp only); omega), (by (try dsimp only); omega), (by (try dsimp only); omega), (by (try dsimp only); omega), (by (try dsimp only); omega), (by (try dsimp only); omega), (by (try dsimp only); omega), (by (try dsimp only); omega), (by (try dsimp only); omega), (by (try dsimp only); omega), (by (try dsimp only); omega), (by (try dsimp only); omega), (by (try dsimp only); omega), trivial⟩
    · intro j8 q84
      obtain ⟨p85, p86, p87, p88, p89, p90, p91, p92, p93, p94, p95, p96, p97, p98, p99, p100, p101, p102, p103, p104, p105, p106, p107, -⟩ := q84
      refine EvP.andK (pick_s (b := (b + 100)) (n := 400) (m := 399) p85 (by omega) (by omega) (by omega) (by omega) (by omega)) ?_
      intro u9 q108
      obtain ⟨p109, p110, p111, p112, p113, -⟩ := q108
      refine EvP.andK (Q := fun r => 0 ≤ r.1.2.2.2.1 ∧ r.1.2.2.2.1 ≤ 4611686018427387903 ∧ (∀ y ∈ r.2.1.1, 0 ≤ y ∧ y ≤ 255) ∧ 0 ≤ r.2.1.2.1 ∧ r.2.1.2.1 ≤ (b + 114) ∧ 0 ≤ r.2.2.1.1 ∧ r.2.2.1.1 ≤ 0 ∧ 0 ≤ r.2.2.1.2.1 ∧ r.2.2.1.2.1 ≤ 0 ∧ 0 ≤ r.2.2.1.2.2.1 ∧ r.2.2.1.2.2.1 ≤ 0 ∧ (r.2.2.1.2.2.2.1.size : Int) ≤ 0 ∧ (r.2.2.1.2.2.2.2.1.size : Int) ≤ 0 ∧ (r.2.2.1.2.2.2.2.2.1.size : Int) ≤ 0 ∧ (r.2.2.1.2.2.2.2.2.2.1.size : Int) ≤ 0 ∧ 0 ≤ r.2.2.2.1.1 ∧ r.2.2.2.1.1 ≤ 5 ∧ 0 ≤ r.2.2.2.1.2.1 ∧ r.2.2.2.1.2.1 ≤ 4 ∧ 0 ≤ r.2.2.2.1.2.2.1 ∧ r.2.2.2.1.2.2.1 ≤ 1 ∧ (r.2.2.2.1.2.2.2.1.size : Int) ≤ 21 ∧ (r.2.2.2.1.2.2.2.2.1.size : Int) ≤ 21 ∧ (r.2.2.2.1.2.2.2.2.2.1.size : Int) ≤ 5 ∧ (r.2.2.2.1.2.2.2.2.2.2.1.size : Int) ≤ 0 ∧ True) ?_ ?_
      · refine EvP.andK (one_s (b := (b + 102)) p111 (by omega) (by omega) (by omega)) ?_
        intro u10 q114
        obtain ⟨p115, p116, p117, -⟩ := q114
        refine EvP.sel (fun c118 => ?_) (fun c118 => ?_)
        · refine EvP.andK (spec_l1Cur_num_s (b := (b + 104)) p115 (by omega) (by omega) (by omega)) ?_
          intro u11 q119
          obtain ⟨p120, p121, p122, p123, p124, -⟩ := q119
          exact EvP.some ⟨(by (try dsimp only); omega), (by (try dsimp only); omega), p122, (by (try dsimp only); omega), (by (try dsimp only); omega), (by (try dsimp only); omega), (by (try dsimp only); omega), (by (try dsimp only); omega), (by (try dsimp only); omega), (by (try dsimp only); omega), (by (try dsimp only); omega), (by (try dsimp only); omega), (by (try dsimp only); omega), (by (try dsimp only); omega), (by (try dsimp only); omega), (by (try dsimp only); omega), (by (try dsimp only); omega), (by (try dsimp only); omega), (by (try dsimp only); omega), (by (try dsimp only); omega), (by (try dsimp only); omega), (by (try dsimp only); omega), (by (try dsimp only); omega), (by (try dsimp only); omega), (by (try dsimp only); omega), trivial⟩
        · exact EvP.some ⟨(by (try dsimp only); omega), (by (try dsimp only); omega), p115, (by (try dsimp only); omega), (by (try dsimp only); omega), (by (try dsimp only); omega), (by (try dsimp only); omega), (by (try dsimp only); omega), (by (try dsimp only); omega), (by (try dsimp only); omega), (by (try dsimp only); omega), (by (try dsimp only); omega), (by (try dsimp only); omega), (by (try dsimp only); omega), (by (try dsimp only); omega), (by (try dsimp only); omega), (by (try dsimp only); omega), (by (try dsimp only); omega), (by (try dsimp only); omega), (by (try dsimp only); omega), (by (try dsimp only); omega), (by (try dsimp only); omega), (by (try dsimp only); omega), (by (try dsimp only); omega), (by (try dsimp only); omega), trivial⟩
      · intro j12 q125
        obtain ⟨p126, p127, p128, p129, p130, p131, p132, p133, p134, p135, p136, p137, p138, p139, p140, p141, p142, p143, p144, p145, p146, p147, p148, p149, p150, -⟩ := q125
        refine EvP.andK (pick_s (b := (b + 114)) (n := 300) (m := 299) p128 (by omega) (by omega) (by omega) (by omega) (by omega)) ?_
        intro u13 q151
        obtain ⟨p152, p153, p154, p155, p156, -⟩ := q151
        refine EvP.andK (Q := fun r => (-300) ≤ r.1.2.2.2.1 ∧ r.1.2.2.2.1 ≤ 4611686018427387902 ∧ (∀ y ∈ r.2.1.1, 0 ≤ y ∧ y ≤ 255) ∧ 0 ≤ r.2.1.2.1 ∧ r.2.1.2.1 ≤ (b + 118) ∧ 0 ≤ r.2.2.1.1 ∧ r.2.2.1.1 ≤ 0 ∧ 0 ≤ r.2.2.1.2.1 ∧ r.2.2.1.2.1 ≤ 0 ∧ 0 ≤ r.2.2.1.2.2.1 ∧ r.2.2.1.2.2.1 ≤ 0 ∧ (r.2.2.1.2.2.2.1.size : Int) ≤ 0 ∧ (r.2.2.1.2.2.2.2.1.size : Int) ≤ 0 ∧ (r.2.2.1.2.2.2.2.2.1.size : Int) ≤ 0 ∧ (r.2.2.1.2.2.2.2.2.2.1.size : Int) ≤ 0 ∧ 0 ≤ r.2.2.2.1.1 ∧ r.2.2.2.1.1 ≤ 5 ∧ 0 ≤ r.2.2.2.1.2.1 ∧ r.2.2.2.1.2.1 ≤ 4 ∧ 0 ≤ r.2.2.2.1.2.2.1 ∧ r.2.2.2.1.2.2.1 ≤ 1 ∧ (r.2.2.2.1.2.2.2.1.size : Int) ≤ 21 ∧ (r.2.2.2.1.2.2.2.2.1.size : Int) ≤ 21 ∧ (r.2.2.2.1.2.2.2.2.2.1.size : Int) ≤ 5 ∧ (r.2.2.2.1.2.2.2.2.2.2.1.size : Int) ≤ 0 ∧ True) ?_ ?_
        · refine EvP.andK (Q := fun r => (∀ y ∈ r.2.1.1, 0 ≤ y ∧ y ≤ 255) ∧ 0 ≤ r.2.1.2.1 ∧ r.2.1.2.1 ≤ (b + 118) ∧ 0 ≤ r.2.2.1.1 ∧ r.2.2.1.1 ≤ 0 ∧ 0 ≤ r.2.2.1.2.1 ∧ r.2.2.1.2.1 ≤ 0 ∧ 0 ≤ r.2.2.1.2.2.1 ∧ r.2.2.1.2.2.1 ≤ 0 ∧ (r.2.2.1.2.2.2.1.size : Int) ≤ 0 ∧ (r.2.2.1.2.2.2.2.1.size : Int) ≤ 0 ∧ (r.2.2.1.2.2.2.2.2.1.size : Int) ≤ 0 ∧ (r.2.2.1.2.2.2.2.2.2.1.size : Int) ≤ 0 ∧ 0 ≤ r.2.2.2.1.1 ∧ r.2.2.2.1.1 ≤ 5 ∧ 0 ≤ r.2.2.2.1.2.1 ∧ r.2.2.2.1.2.1 ≤ 4 ∧ 0 ≤ r.2.2.2.1.2.2.1 ∧ r.2.2.2.1.2.2.1 ≤ 1 ∧ (r.2.2.2.1.2.2.2.1.size : Int) ≤ 21 ∧ (r.2.2.2.1.2.2.2.2.1.size : Int) ≤ 21 ∧ (r.2.2.2.1.2.2.2.2.2.1.size : Int) ≤ 5 ∧ (r.2.2.2.1.2.2.2.2.2.2.1.size : Int) ≤ 0 ∧ True) ?_ ?_
          · have f157 := i64w (n := (j12.1.2.2.2.1 - 1)) (by omega) (by omega)
            have f158 := i64w (n := ((IntKind.i64.wrap (j12.1.2.2.2.1 - 1)) - u13.1.1)) (by omega) (by omega)
            refine EvP.ite (fun c159 => ?_) (fun c159 => ?_)
            · exact EvP.some ⟨p154, (by (try dsimp only); omega), (by (try dsimp only); omega), (by (try dsimp only); omega), (by (try dsimp only); omega), (by (try dsimp only); omega), (by (try dsimp only); omega), (by (try dsimp only); omega), (by (try dsimp only); omega), (by (try dsimp only); omega), (by (try dsimp only); omega), (by (try dsimp only); omega), (by (try dsimp only); omega), (by (try dsimp only); omega), (by (try dsimp only); omega), (by (try dsimp only); omega), (by (try dsimp only); omega), (by (try dsimp only); omega), (by (try dsimp only); omega), (by (try dsimp only); omega), (by (try dsimp only); omega), (by (try dsimp only); omega), (by (try dsimp only); omega), trivial⟩
            · refine EvP.andK (one_s (b := (b + 116)) p154 (by omega) (by omega) (by omega)) ?_
              intro u14 q160
              obtain ⟨p161, p162, p163, -⟩ := q160
              exact EvP.some ⟨p161, (by (try dsimp only); omega), (by (try dsimp only); omega), (by (try dsimp only); omega), (by (try dsimp only); omega), (by (try dsimp only); omega), (by (try dsimp only); omega), (by (try dsimp only); omega), (by (try dsimp only); omega), (by (try dsimp only); omega), (by (try dsimp only); omega), (by (try dsimp only); omega), (by (try dsimp only); omega), (by (try dsimp only); omega), (by (try dsimp only); omega), (by (try dsimp only); omega), (by (try dsimp only); omega), (by (try dsimp only); omega), (by (try dsimp only); omega), (by (try dsimp only); omega), (by (try dsimp only); omega), (by (try dsimp only); omega), (by (try dsimp only); omega), trivial⟩
          · intro j15 q164
            obtain ⟨p165, p166, p167, p168, p169, p170, p171, p172, p173, p174, p175, p176, p177, p178, p179, p180, p181, p182, p183, p184, p185, p186, p187, -⟩ := q164
            refine EvP.sel (fun c188 => ?_) (fun c188 => ?_)
            · exact EvP.some ⟨(by (try dsimp only); omega), (by (try dsimp only); omega), p165, (by (try dsimp only); omega), (by (try dsimp only); omega), (by (try dsimp only); omega), (by (try dsimp only); omega), (by (try dsimp only); omega), (by (try dsimp only); omega), (by (try dsimp only); omega), (by (try dsimp only); omega), (by (try dsimp only); omega), (by (try dsimp only); omega), (by (try dsimp only); omega), (by (try dsimp only); omega), (by (try dsimp only); omega), (by (try dsimp only); omega), (by (try dsimp only); omega), (by (try dsimp only); omega), (by (try dsimp only); omega), (by (try dsimp only); omega), (by (try dsimp only); omega), (by (try dsimp only); omega), (by (try dsimp only); omega), (by (try dsimp only); omega), trivial⟩
            · have f189 := i64w (n := (j12.1.2.2.2.1 - 1)) (by omega) (by omega)
              have f190 := i64w (n := ((IntKind.i64.wrap (j12.1.2.2.2.1 - 1)) - u13.1.1)) (by omega) (by omega)
              exact EvP.some ⟨(by (try dsimp only); omega), (by (try dsimp only); omega), p165, (by (try dsimp only); omega), (by (try dsimp only); omega), (by (try dsimp only); omega), (by (try dsimp only); omega), (by (try dsimp only); omega), (by (try dsimp only); omega), (by (try dsimp only); omega), (by (try dsimp only); omega), (by (try dsimp only); omega), (by (try dsimp only); omega), (by (try dsimp only); omega), (by (try dsimp only); omega), (by (try dsimp only); omega), (by (try dsimp only); omega), (by (try dsimp only); omega), (by (try dsimp only); omega), (by (try dsimp only); omega), (by (try dsimp only); omega), (by (try dsimp only); omega), (by (try dsimp only); omega), (by (try dsimp only); omega), (by (try dsimp only); omega), trivial⟩
        · intro j16 q191
          obtain ⟨p192, p193, p194, p195, p196, p197, p198, p199, p200, p201, p202, p203, p204, p205, p206, p207, p208, p209, p210, p211, p212, p213, p214, p215, p216, -⟩ := q191
          refine EvP.andK (Q := fun r => (∀ y ∈ r.2.1.1, 0 ≤ y ∧ y ≤ 255) ∧ 0 ≤ r.2.1.2.1 ∧ r.2.1.2.1 ≤ (b + 122) ∧ 0 ≤ r.2.2.1.1 ∧ r.2.2.1.1 ≤ 0 ∧ 0 ≤ r.2.2.1.2.1 ∧ r.2.2.1.2.1 ≤ 0 ∧ 0 ≤ r.2.2.1.2.2.1 ∧ r.2.2.1.2.2.1 ≤ 0 ∧ (r.2.2.1.2.2.2.1.size : Int) ≤ 0 ∧ (r.2.2.1.2.2.2.2.1.size : Int) ≤ 0 ∧ (r.2.2.1.2.2.2.2.2.1.size : Int) ≤ 0 ∧ (r.2.2.1.2.2.2.2.2.2.1.size : Int) ≤ 0 ∧ 0 ≤ r.2.2.2.1.1 ∧ r.2.2.2.1.1 ≤ 5 ∧ 0 ≤ r.2.2.2.1.2.1 ∧ r.2.2.2.1.2.1 ≤ 15 ∧ 0 ≤ r.2.2.2.1.2.2.1 ∧ r.2.2.2.1.2.2.1 ≤ 1 ∧ (r.2.2.2.1.2.2.2.1.size : Int) ≤ 21 ∧ (r.2.2.2.1.2.2.2.2.1.size : Int) ≤ 21 ∧ (r.2.2.2.1.2.2.2.2.2.1.size : Int) ≤ 5 ∧ (r.2.2.2.1.2.2.2.2.2.2.1.size : Int) ≤ 0 ∧ True) ?_ ?_
          · refine EvP.andK (one_s (b := (b + 118)) p194 (by omega) (by omega) (by omega)) ?_
            intro u17 q217
            obtain ⟨p218, p219, p220, -⟩ := q217
            refine EvP.sel (fun c221 => ?_) (fun c221 => ?_)
            · refine EvP.andK (pick_s (b := (b + 120)) (n := 16) (m := 15) p218 (by omega) (by omega) (by omega) (by omega) (by omega)) ?_
              intro u18 q222
              obtain ⟨p223, p224, p225, p226, p227, -⟩ := q222
              exact EvP.some ⟨p225, (by (try dsimp only); omega), (by (try dsimp only); omega), (by (try dsimp only); omega), (by (try dsimp only); omega), (by (try dsimp only); omega), (by (try dsimp only); omega), (by (try dsimp only); omega), (by (try dsimp only); omega), (by (try dsimp only); omega), (by (try dsimp only); omega), (by (try dsimp only); omega), (by (try dsimp only); omega), (by (try dsimp only); omega), (by (try dsimp only); omega), (by (try dsimp only); omega), (by (try dsimp only); omega), (by (try dsimp only); omega), (by (try dsimp only); omega), (by (try dsimp only); omega), (by (try dsimp only); omega), (by (try dsimp only); omega), (by (try dsimp only); omega), trivial⟩
            · exact EvP.some ⟨p218, (by (try dsimp only); omega), (by (try dsimp only); omega), (by (try dsimp only); omega), (by (try dsimp only); omega), (by (try dsimp only); omega), (by (try dsimp only); omega), (by (try dsimp only); omega), (by (try dsimp only); omega), (by (try dsimp only); omega), (by (try dsimp only); omega), (by (try dsimp only); omega), (by (try dsimp only); omega), (by (try dsimp only); omega), (by (try dsimp only); omega), (by (try dsimp only); omega), (by (try dsimp only); omega), (by (try dsimp only); omega), (by (try dsimp only); omega), (by (try dsimp only); omega), (by (try dsimp only); omega), (by (try dsimp only); omega), (by (try dsimp only); omega), trivial⟩
          · intro j19 q228
            obtain ⟨p229, p230, p231, p232, p233, p234, p235, p236, p237, p238, p239, p240, p241, p242, p243, p244, p245, p246, p247, p248, p249, p250, p251, -⟩ := q228
            have f252 : ([(1, (0, (0, (0, (false, ((⟨#[]⟩ : ByteArray), []))))))] : List (Int × (Int × (Int × (Int × (Bool × (ByteArray × (List (Int × Int))))))))).length = 1 := rfl
            have f253 : (⟨#[]⟩ : ByteArray).size = 0 := rfl
            have f254 : ([] : List (Int × Int)).length = 0 := rfl
            refine EvP.andK (spec_FramesBytes_s (by omega) (all_cons ⟨(by (try dsimp only); omega), (by (try dsimp only); omega), (by (try dsimp only); omega), (by (try dsimp only); omega), (by (try dsimp only); omega), (by (try dsimp only); omega), (by (try dsimp only); omega), (by (try dsimp only); omega), (by (try dsimp only); omega), (by (try dsimp only); omega)⟩ all_nil)) ?_
            intro u20 q255
            obtain ⟨p256, -⟩ := q255
            refine EvP.andK (one_s (b := (b + 122)) p229 (by omega) (by omega) (by omega)) ?_
            intro u21 q257
            obtain ⟨p258, p259, p260, -⟩ := q257
            refine EvP.sel (fun c261 => ?_) (fun c261 => ?_)
            · refine EvP.andK (pick_s (b := (b + 124)) (n := 40) (m := 39) p258 (by omega) (by omega) (by omega) (by omega) (by omega)) ?_
              intro u22 q262
              obtain ⟨p263, p264, p265, p266, p267, -⟩ := q262
              refine EvP.andK (sized_s (b := (b + 126)) (n := u22.1.1) (m := 39) p265 (by omega) (by omega) (by decide) (by omega) (by omega) (by omega)) ?_
              intro u23 q268
              obtain ⟨p269, p270, p271, p272, p273, -⟩ := q268
              have f274 := strL_size u23.2.2.1
              exact EvP.some ⟨(by (try dsimp only); omega), (by (try dsimp only); omega), (by (try dsimp only); omega), (by (try dsimp only); omega), (by (try dsimp only); omega), (by (try dsimp only); omega), (by (try dsimp only); omega), (by (try dsimp only); omega), (by (try dsimp only); omega), (by (try dsimp only); omega), (by (try dsimp only); omega), (by (try dsimp only); omega), (by (try dsimp only); omega), (by (try dsimp only); omega), (by (try dsimp only); omega), p269, (by (try dsimp only); omega), (by (try dsimp only); omega), trivial⟩
            · exact EvP.some ⟨(by (try dsimp only); omega), (by (try dsimp only); omega), (by (try dsimp only); omega), (by (try dsimp only); omega), (by (try dsimp only); omega), (by (try dsimp only); omega), (by (try dsimp only); omega), (by (try dsimp only); omega), (by (try dsimp only); omega), (by (try dsimp only); omega), (by (try dsimp only); omega), (by (try dsimp only); omega), (by (try dsimp only); omega), (by (try dsimp only); omega), (by (try dsimp only); omega), p258, (by (try dsimp only); omega), (by (try dsimp only); omega), trivial⟩

theorem spec_DrawNumberBytes_s {code : (List Int)} (h0 : ∀ y ∈ code, 0 ≤ y ∧ y ≤ 255) : EvP (fun N => spec_DrawNumberBytes N code) (fun r => 0 ≤ r.1.1 ∧ r.1.1 ≤ 4611686018427387903 ∧ (-2147483648) ≤ r.1.2.1 ∧ r.1.2.1 ≤ 4611686018427387903 ∧ True) := by
  refine EvP.of (fun N => spec_DrawNumberBytes.eq N _) ?_
  refine EvP.andK (spec_l1Cur_packet_s (b := 0) h0 (by omega) (by omega) (by omega)) ?_
  intro u1 q1
  obtain ⟨p2, p3, p4, p5, p6, p7, p8, p9, p10, p11, p12, p13, p14, p15, p16, p17, p18, p19, -⟩ := q1
  refine EvP.andK (pick_s (b := 204) (n := 8) (m := 7) p17 (by omega) (by omega) (by omega) (by omega) (by omega)) ?_
  intro u2 q20
  obtain ⟨p21, p22, p23, p24, p25, -⟩ := q20
  refine EvP.ite (fun c26 => ?_) (fun c26 => ?_)
  · have f27 : ([127, 128, 32767, 32768, 8388607, 8388608, 2147483647, 2147483648, 0] : List Int).length = 9 := rfl
    refine EvP.andK (among_s (b := 206) (P := fun y => 0 ≤ y ∧ y ≤ 2147483648) (all_cons ⟨(by (try dsimp only); omega), (by (try dsimp only); omega)⟩ (all_cons ⟨(by (try dsimp only); omega), (by (try dsimp only); omega)⟩ (all_cons ⟨(by (try dsimp only); omega), (by (try dsimp only); omega)⟩ (all_cons ⟨(by (try dsimp only); omega), (by (try dsimp only); omega)⟩ (all_cons ⟨(by (try dsimp only); omega), (by (try dsimp only); omega)⟩ (all_cons ⟨(by (try dsimp only); omega), (by (try dsimp only); omega)⟩ (all_cons ⟨(by (try dsimp only); omega), (by (try dsimp only); omega)⟩ (all_cons ⟨(by (try dsimp only); omega), (by (try dsimp only); omega)⟩ (all_cons ⟨(by (try dsimp only); omega), (by (try dsimp only); omega)⟩ all_nil))))))))) (by decide) p23 (by omega) (by omega) (by omega)) ?_
    intro u3 q28
    obtain ⟨q29, q30⟩ := q28
    obtain ⟨p31, p32⟩ := q29
    obtain ⟨p33, p34, p35, -⟩ := q30
    have f36 := i64w (n := (u1.1.2.1 - u3.1.1)) (by omega) (by omega)
    exact EvP.some ⟨(by (try dsimp only); omega), (by (try dsimp only); omega), (by (try dsimp only); omega), (by (try dsimp only); omega), trivial⟩
  · exact EvP.some ⟨(by (try dsimp only); omega), (by (try dsimp only); omega), (by (try dsimp only); omega), (by (try dsimp only); omega), trivial⟩

theorem spec_DrawNumberOf_s {code : (List Int)} (h0 : ∀ y ∈ code, 0 ≤ y ∧ y ≤ 255) : EvP (fun N => spec_DrawNumberOf N code) (fun r => (-1) ≤ r.1.1 ∧ r.1.1 ≤ 4611686018427387902 ∧ (-9223372036854775808) ≤ r.1.2.1 ∧ r.1.2.1 ≤ 9223372036854775807 ∧ 0 ≤ r.1.2.2.1 ∧ r.1.2.2.1 ≤ 5 ∧ True) := by
  refine EvP.of (fun N => spec_DrawNumberOf.eq N _) ?_
  refine EvP.andK (pick_s (b := 0) (n := 4) (m := 3) h0 (by omega) (by omega) (by omega) (by omega) (by omega)) ?_
  intro u1 q1
  obtain ⟨p2, p3, p4, p5, p6, -⟩ := q1
  refine EvP.andK (spec_l1Cur_wide_s (b := 2) p4 (by omega) (by omega) (by omega)) ?_
  intro u2 q7
  obtain ⟨p8, p9, p10, p11, p12, -⟩ := q7
  have f13 := i64w (n := (1 + u1.1.1)) (by omega) (by omega)
  have f14 := i64w (n := (8 * (IntKind.i64.wrap (1 + u1.1.1)))) (by omega) (by omega)
  have f15 := u64i (n := (IntKind.i64.wrap (8 * (IntKind.i64.wrap (1 + u1.1.1))))) (by omega) (by omega)
  refine EvP.chk (decide_eq_true (by omega)) ?_
  refine EvP.andK (spec_l1Cur_num_s (b := 10) p10 (by omega) (by omega) (by omega)) ?_
  intro u3 q16
  obtain ⟨p17, p18, p19, p20, p21, -⟩ := q16
  refine EvP.andK (Q := fun r => 0 ≤ r.1.2.1 ∧ r.1.2.1 ≤ 5 ∧ (∀ y ∈ r.2.1.1, 0 ≤ y ∧ y ≤ 255) ∧ 0 ≤ r.2.1.2.1 ∧ r.2.1.2.1 ≤ 24 ∧ True) ?_ ?_
  · refine EvP.andK (one_s (b := 20) p19 (by omega) (by omega) (by omega)) ?_
    intro u4 q22
    obtain ⟨p23, p24, p25, -⟩ := q22
    refine EvP.sel (fun c26 => ?_) (fun c26 => ?_)
    · have f27 : ([0, 5] : List Int).length = 2 := rfl
      refine EvP.andK (among_s (b := 22) (P := fun y => 0 ≤ y ∧ y ≤ 5) (all_cons ⟨(by (try dsimp only); omega), (by (try dsimp only); omega)⟩ (all_cons ⟨(by (try dsimp only); omega), (by (try dsimp only); omega)⟩ all_nil)) (by decide) p23 (by omega) (by omega) (by omega)) ?_
      intro u5 q28
      obtain ⟨q29, q30⟩ := q28
      obtain ⟨p31, p32⟩ := q29
      obtain ⟨p33, p34, p35, -⟩ := q30
      exact EvP.some ⟨(by (try dsimp only); omega), (by (try dsimp only); omega), p33, (by (try dsimp only); omega), (by (try dsimp only); omega), trivial⟩
    · exact EvP.some ⟨(by (try dsimp only); omega), (by (try dsimp only); omega), p23, (by (try dsimp only); omega), (by (try dsimp only); omega), trivial⟩
  · intro j6 q36
    obtain ⟨p37, p38, p39, p40, p41, -⟩ := q36
    refine EvP.andK (one_s (b := 24) p39 (by omega) (by omega) (by omega)) ?_
    intro u7 q42
    obtain ⟨p43, p44, p45, -⟩ := q42
    refine EvP.sel (fun c46 => ?_) (fun c46 => ?_)
    · refine EvP.andK (pick_s (b := 26) (n := 300) (m := 299) p43 (by omega) (by omega) (by omega) (by omega) (by omega)) ?_
      intro u8 q47
      obtain ⟨p48, p49, p50, p51, p52, -⟩ := q47
      have f53 := i64w (n := (4611686018427387902 - u8.1.1)) (by omega) (by omega)
      have f54 : (-9223372036854775808) ≤ (shlI .i64 1 (IntKind.u64.wrap (IntKind.i64.wrap (8 * (IntKind.i64.wrap (1 + u1.1.1)))))) ∧ (shlI .i64 1 (IntKind.u64.wrap (IntKind.i64.wrap (8 * (IntKind.i64.wrap (1 + u1.1.1)))))) ≤ 9223372036854775807 := shl_range .i64 1 (IntKind.u64.wrap (IntKind.i64.wrap (8 * (IntKind.i64.wrap (1 + u1.1.1))))) (by decide)
      have f55 := i64_range (((shlI .i64 1 (IntKind.u64.wrap (IntKind.i64.wrap (8 * (IntKind.i64.wrap (1 + u1.1.1)))))) - 1))
      have f56 : (-9223372036854775808) ≤ (Go.bits .and .i64 u2.1.1 (IntKind.i64.wrap ((shlI .i64 1 (IntKind.u64.wrap (IntKind.i64.wrap (8 * (IntKind.i64.wrap (1 + u1.1.1)))))) - 1))) ∧ (Go.bits .and .i64 u2.1.1 (IntKind.i64.wrap ((shlI .i64 1 (IntKind.u64.wrap (IntKind.i64.wrap (8 * (IntKind.i64.wrap (1 + u1.1.1)))))) - 1))) ≤ 9223372036854775807 := bits_range .and .i64 u2.1.1 (IntKind.i64.wrap ((shlI .i64 1 (IntKind.u64.wrap (IntKind.i64.wrap (8 * (IntKind.i64.wrap (1 + u1.1.1)))))) - 1)) (by decide)
      exact EvP.some ⟨(by (try dsimp only); omega), (by (try dsimp only); omega), (by (try dsimp only); omega), (by (try dsimp only); omega), (by (try dsimp only); omega), (by (try dsimp only); omega), trivial⟩
    · have f57 := i64w (n := (u3.1.1 - 1)) (by omega) (by omega)
      have f58 : (-9223372036854775808) ≤ (shlI .i64 1 (IntKind.u64.wrap (IntKind.i64.wrap (8 * (IntKind.i64.wrap (1 + u1.1.1)))))) ∧ (shlI .i64 1 (IntKind.u64.wrap (IntKind.i64.wrap (8 * (IntKind.i64.wrap (1 + u1.1.1)))))) ≤ 9223372036854775807 := shl_range .i64 1 (IntKind.u64.wrap (IntKind.i64.wrap (8 * (IntKind.i64.wrap (1 + u1.1.1))))) (by decide)
      have f59 := i64_range (((shlI .i64 1 (IntKind.u64.wrap (IntKind.i64.wrap (8 * (IntKind.i64.wrap (1 + u1.1.1)))))) - 1))
      have f60 : (-9223372036854775808) ≤ (Go.bits .and .i64 u2.1.1 (IntKind.i64.wrap ((shlI .i64 1 (IntKind.u64.wrap (IntKind.i64.wrap (8 * (IntKind.i64.wrap (1 + u1.1.1)))))) - 1))) ∧ (Go.bits .and .i64 u2.1.1 (IntKind.i64.wrap ((shlI .i64 1 (IntKind.u64.wrap (IntKind.i64.wrap (8 * (IntKind.i64.wrap (1 + u1.1.1)))))) - 1))) ≤ 9223372036854775807 := bits_range .and .i64 u2.1.1 (IntKind.i64.wrap ((shlI .i64 1 (IntKind.u64.wrap (IntKind.i64.wrap (8 * (IntKind.i64.wrap (1 + u1.1.1)))))) - 1)) (by decide)
      exact EvP.some ⟨(by (try dsimp only); omega), (by (try dsimp only); omega), (by (try dsimp only); omega), (by (try dsimp only); omega), (by (try dsimp only); omega), (by (try dsimp only); omega), trivial⟩

end Go.Proofs.Ytcngjidojibleab.CFnNumbers
