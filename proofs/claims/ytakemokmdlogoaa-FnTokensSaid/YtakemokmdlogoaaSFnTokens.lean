/- What is drawn: it comes to an end, and how large it is. Written by a program of this session; Lean checks it. -/
import Derived.Test.YtakemokmdlogoaaQCuFnTokens
import Derived.Test.YtakemokmdlogoaaQCuAmongFnTokens
import Derived.Test.YtakemokmdlogoaaQCuOfFnTokens
set_option linter.unusedVariables false
set_option maxRecDepth 10000
namespace Go.Proofs.Ytakemokmdlogoaa.CFnTokens
open Go Go.Proofs Go.Proofs.YtakemokmdlogoaaPM Go.Proofs.Ytakemokmdlogoaa.Q Go.Proofs.Ytakemokmdlogoaa.GFnTokens

theorem spec_l1Cur_block_s {b : Int} {p0_0 : (List Int)} {p0_1 : Int} {p0_2 : Int} (h0 : ∀ y ∈ p0_0, 0 ≤ y ∧ y ≤ 255) (h1 : 0 ≤ p0_1) (h2 : p0_1 ≤ b) (hb : b ≤ 4611686018423999996) : EvP (fun N => spec_l1Cur_block N p0_0 p0_1 p0_2) (fun r => (r.1.1.size : Int) ≤ 17 ∧ (∀ y ∈ r.2.1.1, 0 ≤ y ∧ y ≤ 255) ∧ 0 ≤ r.2.1.2.1 ∧ r.2.1.2.1 ≤ (b + 38) ∧ True) := by
  refine EvP.of (fun N => spec_l1Cur_block.eq N _ _ _) ?_
  refine EvP.andK (one_s (b := b) h0 (by omega) (by omega) (by omega)) ?_
  intro u1 q1
  obtain ⟨p2, p3, p4, -⟩ := q1
  refine EvP.sel (fun c5 => ?_) (fun c5 => ?_)
  · have f6 : ([0, 15, 17] : List Int).length = 3 := rfl
    refine EvP.andK (among_s (b := (b + 2)) (P := fun y => 0 ≤ y ∧ y ≤ 17) (all_cons ⟨(by (try dsimp only); omega), (by (try dsimp only); omega)⟩ (all_cons ⟨(by (try dsimp only); omega), (by (try dsimp only); omega)⟩ (all_cons ⟨(by (try dsimp only); omega), (by (try dsimp only); omega)⟩ all_nil))) (by decide) p2 (by omega) (by omega) (by omega)) ?_
    intro u2 q7
    obtain ⟨q8, q9⟩ := q7
    obtain ⟨p10, p11⟩ := q8
    obtain ⟨p12, p13, p14, -⟩ := q9
    refine EvP.andK (sized_s (b := (b + 4)) (n := u2.1.1) (m := 17) p12 (by omega) (by omega) (by decide) (by omega) (by omega) (by omega)) ?_
    intro u3 q15
    obtain ⟨p16, p17, p18, p19, p20, -⟩ := q15
    have f21 := strL_size u3.2.2.1
    exact EvP.some ⟨(by (try dsimp only); omega), p16, (by (try dsimp only); omega), (by (try dsimp only); omega), trivial⟩
  · refine EvP.andK (one_s (b := (b + 2)) p2 (by omega) (by omega) (by omega)) ?_
    intro u4 q22
    obtain ⟨p23, p24, p25, -⟩ := q22
    refine EvP.sel (fun c26 => ?_) (fun c26 => ?_)
    · have f27 : (List.replicate 16 (0 : Int)).length = _ := List.length_replicate
      have f28 := strL_size (List.replicate 16 (0 : Int))
      exact EvP.some ⟨(by (try dsimp only); omega), p23, (by (try dsimp only); omega), (by (try dsimp only); omega), trivial⟩
    · refine EvP.andK (sized_s (b := (b + 4)) (n := 16) (m := 16) p23 (by omega) (by omega) (by decide) (by omega) (by omega) (by omega)) ?_
      intro u5 q29
      obtain ⟨p30, p31, p32, p33, p34, -⟩ := q29
      have f35 := strL_size u5.2.2.1
      exact EvP.some ⟨(by (try dsimp only); omega), p30, (by (try dsimp only); omega), (by (try dsimp only); omega), trivial⟩

theorem spec_l1Cur_nonce_s {b : Int} {p0_0 : (List Int)} {p0_1 : Int} {p0_2 : Int} (h0 : ∀ y ∈ p0_0, 0 ≤ y ∧ y ≤ 255) (h1 : 0 ≤ p0_1) (h2 : p0_1 ≤ b) (hb : b ≤ 4611686018423999996) : EvP (fun N => spec_l1Cur_nonce N p0_0 p0_1 p0_2) (fun r => (r.1.1.size : Int) ≤ 13 ∧ (∀ y ∈ r.2.1.1, 0 ≤ y ∧ y ≤ 255) ∧ 0 ≤ r.2.1.2.1 ∧ r.2.1.2.1 ≤ (b + 30) ∧ True) := by
  refine EvP.of (fun N => spec_l1Cur_nonce.eq N _ _ _) ?_
  refine EvP.andK (one_s (b := b) h0 (by omega) (by omega) (by omega)) ?_
  intro u1 q1
  obtain ⟨p2, p3, p4, -⟩ := q1
  refine EvP.sel (fun c5 => ?_) (fun c5 => ?_)
  · refine EvP.andK (pick_s (b := (b + 2)) (n := 2) (m := 1) p2 (by omega) (by omega) (by omega) (by omega) (by omega)) ?_
    intro u2 q6
    obtain ⟨q7, q8⟩ := q6
    obtain ⟨p9, p10, p11, p12⟩ := q7
    obtain ⟨p13, p14, p15, -⟩ := q8
    have f16 := i64w (n := (2 * u2.1.1)) (by omega) (by omega)
    have f17 := i64w (n := (11 + (IntKind.i64.wrap (2 * u2.1.1)))) (by omega) (by omega)
    refine EvP.andK (sized_s (b := (b + 4)) (n := (IntKind.i64.wrap (11 + (IntKind.i64.wrap (2 * u2.1.1))))) (m := 13) p13 (by omega) (by omega) (by decide) (by omega) (by omega) (by omega)) ?_
    intro u3 q18
    obtain ⟨p19, p20, p21, p22, p23, -⟩ := q18
    have f24 := strL_size u3.2.2.1
    exact EvP.some ⟨(by (try dsimp only); omega), p19, (by (try dsimp only); omega), (by (try dsimp only); omega), trivial⟩
  · refine EvP.andK (sized_s (b := (b + 2)) (n := 12) (m := 12) p2 (by omega) (by omega) (by decide) (by omega) (by omega) (by omega)) ?_
    intro u4 q25
    obtain ⟨p26, p27, p28, p29, p30, -⟩ := q25
    have f31 := strL_size u4.2.2.1
    exact EvP.some ⟨(by (try dsimp only); omega), p26, (by (try dsimp only); omega), (by (try dsimp only); omega), trivial⟩

theorem spec_l1Cur_address_s {b : Int} {p0_0 : (List Int)} {p0_1 : Int} {p0_2 : Int} (h0 : ∀ y ∈ p0_0, 0 ≤ y ∧ y ≤ 255) (h1 : 0 ≤ p0_1) (h2 : p0_1 ≤ b) (hb : b ≤ 4611686018423999996) : EvP (fun N => spec_l1Cur_address N p0_0 p0_1 p0_2) (fun r => (r.1.1.size : Int) ≤ 19 ∧ (∀ y ∈ r.2.1.1, 0 ≤ y ∧ y ≤ 255) ∧ 0 ≤ r.2.1.2.1 ∧ r.2.1.2.1 ≤ (b + 42) ∧ True) := by
  refine EvP.of (fun N => spec_l1Cur_address.eq N _ _ _) ?_
  refine EvP.andK (one_s (b := b) h0 (by omega) (by omega) (by omega)) ?_
  intro u1 q1
  obtain ⟨p2, p3, p4, -⟩ := q1
  refine EvP.sel (fun c5 => ?_) (fun c5 => ?_)
  · have f6 : ([0, 18, 19] : List Int).length = 3 := rfl
    refine EvP.andK (among_s (b := (b + 2)) (P := fun y => 0 ≤ y ∧ y ≤ 19) (all_cons ⟨(by (try dsimp only); omega), (by (try dsimp only); omega)⟩ (all_cons ⟨(by (try dsimp only); omega), (by (try dsimp only); omega)⟩ (all_cons ⟨(by (try dsimp only); omega), (by (try dsimp only); omega)⟩ all_nil))) (by decide) p2 (by omega) (by omega) (by omega)) ?_
    intro u2 q7
    obtain ⟨q8, q9⟩ := q7
    obtain ⟨p10, p11⟩ := q8
    obtain ⟨p12, p13, p14, -⟩ := q9
    refine EvP.andK (sized_s (b := (b + 4)) (n := u2.1.1) (m := 19) p12 (by omega) (by omega) (by decide) (by omega) (by omega) (by omega)) ?_
    intro u3 q15
    obtain ⟨p16, p17, p18, p19, p20, -⟩ := q15
    have f21 := strL_size u3.2.2.1
    exact EvP.some ⟨(by (try dsimp only); omega), p16, (by (try dsimp only); omega), (by (try dsimp only); omega), trivial⟩
  · have f22 : ([(⟨#[97, 100, 100, 114, 49]⟩ : ByteArray), (⟨#[97, 100, 100, 114, 50]⟩ : ByteArray), (⟨#[49, 48, 46, 48, 46, 48, 46, 49]⟩ : ByteArray)] : List ByteArray).length = 3 := rfl
    have f23 : (⟨#[97, 100, 100, 114, 49]⟩ : ByteArray).size = 5 := rfl
    have f24 : (⟨#[97, 100, 100, 114, 50]⟩ : ByteArray).size = 5 := rfl
    have f25 : (⟨#[49, 48, 46, 48, 46, 48, 46, 49]⟩ : ByteArray).size = 8 := rfl
    refine EvP.andK (of_s (b := (b + 2)) (P := fun y => (y.size : Int) ≤ 8 ∧ 5 ≤ (y.size : Int)) (all_cons ⟨(by (try dsimp only); omega), (by (try dsimp only); omega)⟩ (all_cons ⟨(by (try dsimp only); omega), (by (try dsimp only); omega)⟩ (all_cons ⟨(by (try dsimp only); omega), (by (try dsimp only); omega)⟩ all_nil))) (by decide) p2 (by omega) (by omega) (by omega)) ?_
    intro u4 q26
    obtain ⟨q27, q28⟩ := q26
    obtain ⟨p29, p30⟩ := q27
    obtain ⟨p31, p32, p33, -⟩ := q28
    exact EvP.some ⟨(by (try dsimp only); omega), p31, (by (try dsimp only); omega), (by (try dsimp only); omega), trivial⟩

theorem spec_l1Cur_id_s {b : Int} {p0_0 : (List Int)} {p0_1 : Int} {p0_2 : Int} (h0 : ∀ y ∈ p0_0, 0 ≤ y ∧ y ≤ 255) (h1 : 0 ≤ p0_1) (h2 : p0_1 ≤ b) (hb : b ≤ 4611686018423999994) : EvP (fun N => spec_l1Cur_id N p0_0 p0_1 p0_2) (fun r => (r.1.1.size : Int) ≤ 21 ∧ (∀ y ∈ r.2.1.1, 0 ≤ y ∧ y ≤ 255) ∧ 0 ≤ r.2.1.2.1 ∧ r.2.1.2.1 ≤ (b + 48) ∧ True) := by
  refine EvP.of (fun N => spec_l1Cur_id.eq N _ _ _) ?_
  refine EvP.andK (pick_s (b := b) (n := 10) (m := 9) h0 (by omega) (by omega) (by omega) (by omega) (by omega)) ?_
  intro u1 q1
  obtain ⟨q2, q3⟩ := q1
  obtain ⟨p4, p5, p6, p7⟩ := q2
  obtain ⟨p8, p9, p10, -⟩ := q3
  refine EvP.andK (Q := fun r => 0 ≤ r.1.2.1 ∧ r.1.2.1 ≤ 21 ∧ (∀ y ∈ r.2.1.1, 0 ≤ y ∧ y ≤ 255) ∧ 0 ≤ r.2.1.2.1 ∧ r.2.1.2.1 ≤ (b + 6) ∧ True) ?_ ?_
  · refine EvP.andK (one_s (b := (b + 2)) p8 (by omega) (by omega) (by omega)) ?_
    intro u2 q11
    obtain ⟨p12, p13, p14, -⟩ := q11
    refine EvP.sel (fun c15 => ?_) (fun c15 => ?_)
    · have f16 : ([20, 21, 0] : List Int).length = 3 := rfl
      refine EvP.andK (among_s (b := (b + 4)) (P := fun y => 0 ≤ y ∧ y ≤ 21) (all_cons ⟨(by (try dsimp only); omega), (by (try dsimp only); omega)⟩ (all_cons ⟨(by (try dsimp only); omega), (by (try dsimp only); omega)⟩ (all_cons ⟨(by (try dsimp only); omega), (by (try dsimp only); omega)⟩ all_nil))) (by decide) p12 (by omega) (by omega) (by omega)) ?_
      intro u3 q17
      obtain ⟨q18, q19⟩ := q17
      obtain ⟨p20, p21⟩ := q18
      obtain ⟨p22, p23, p24, -⟩ := q19
      exact EvP.some ⟨(by (try dsimp only); omega), (by (try dsimp only); omega), p22, (by (try dsimp only); omega), (by (try dsimp only); omega), trivial⟩
    · exact EvP.some ⟨(by (try dsimp only); omega), (by (try dsimp only); omega), p12, (by (try dsimp only); omega), (by (try dsimp only); omega), trivial⟩
  · intro j4 q25
    obtain ⟨p26, p27, p28, p29, p30, -⟩ := q25
    refine EvP.andK (sized_s (b := (b + 6)) (n := j4.1.2.1) (m := 21) p28 (by omega) (by omega) (by decide) (by omega) (by omega) (by omega)) ?_
    intro u5 q31
    obtain ⟨p32, p33, p34, p35, p36, -⟩ := q31
    have f37 := strL_size u5.2.2.1
    exact EvP.some ⟨(by (try dsimp only); omega), p32, (by (try dsimp only); omega), (by (try dsimp only); omega), trivial⟩

theorem spec_l1Cur_minted_s {b : Int} {p0_0 : (List Int)} {p0_1 : Int} {p0_2 : Int} (h0 : ∀ y ∈ p0_0, 0 ≤ y ∧ y ≤ 255) (h1 : 0 ≤ p0_1) (h2 : p0_1 ≤ b) (hb : b ≤ 4611686018423999994) : EvP (fun N => spec_l1Cur_minted N p0_0 p0_1 p0_2) (fun r => (r.1.1.1.size : Int) ≤ 21 ∧ (-1) ≤ r.1.1.2.1 ∧ r.1.1.2.1 ≤ 1000000001 ∧ (∀ y ∈ r.2.1.1, 0 ≤ y ∧ y ≤ 255) ∧ 0 ≤ r.2.1.2.1 ∧ r.2.1.2.1 ≤ (b + 56) ∧ True) := by
  refine EvP.of (fun N => spec_l1Cur_minted.eq N _ _ _) ?_
  refine EvP.andK (spec_l1Cur_id_s (b := b) h0 (by omega) (by omega) (by omega)) ?_
  intro u1 q1
  obtain ⟨p2, p3, p4, p5, -⟩ := q1
  refine EvP.andK (pick_s (b := (b + 48)) (n := 100) (m := 99) p3 (by omega) (by omega) (by omega) (by omega) (by omega)) ?_
  intro u2 q6
  obtain ⟨q7, q8⟩ := q6
  obtain ⟨p9, p10, p11, p12⟩ := q7
  obtain ⟨p13, p14, p15, -⟩ := q8
  refine EvP.andK (one_s (b := (b + 50)) p13 (by omega) (by omega) (by omega)) ?_
  intro u3 q16
  obtain ⟨p17, p18, p19, -⟩ := q16
  refine EvP.andK (one_s (b := (b + 52)) p17 (by omega) (by omega) (by omega)) ?_
  intro u4 q20
  obtain ⟨p21, p22, p23, -⟩ := q20
  refine EvP.sel (fun c24 => ?_) (fun c24 => ?_)
  · have f25 : ([(-1), 1000000000, 1000000001] : List Int).length = 3 := rfl
    refine EvP.andK (among_s (b := (b + 54)) (P := fun y => (-1) ≤ y ∧ y ≤ 1000000001) (all_cons ⟨(by (try dsimp only); omega), (by (try dsimp only); omega)⟩ (all_cons ⟨(by (try dsimp only); omega), (by (try dsimp only); omega)⟩ (all_cons ⟨(by (try dsimp only); omega), (by (try dsimp only); omega)⟩ all_nil))) (by decide) p21 (by omega) (by omega) (by omega)) ?_
    intro u5 q26
    obtain ⟨q27, q28⟩ := q26
    obtain ⟨p29, p30⟩ := q27
    obtain ⟨p31, p32, p33, -⟩ := q28
    exact EvP.some ⟨(by (try dsimp only); omega), (by (try dsimp only); omega), (by (try dsimp only); omega), p31, (by (try dsimp only); omega), (by (try dsimp only); omega), trivial⟩
  · exact EvP.some ⟨(by (try dsimp only); omega), (by (try dsimp only); omega), (by (try dsimp only); omega), p21, (by (try dsimp only); omega), (by (try dsimp only); omega), trivial⟩

theorem spec_DrawMintToken_s {code : (List Int)} (h0 : ∀ y ∈ code, 0 ≤ y ∧ y ≤ 255) : EvP (fun N => spec_DrawMintToken N code) (fun r => (r.1.1.size : Int) ≤ 17 ∧ (r.1.2.1.size : Int) ≤ 13 ∧ (r.1.2.2.1.size : Int) ≤ 19 ∧ (r.1.2.2.2.1.1.size : Int) ≤ 21 ∧ (-1) ≤ r.1.2.2.2.1.2.1 ∧ r.1.2.2.2.1.2.1 ≤ 1000000001 ∧ True) := by
  refine EvP.of (fun N => spec_DrawMintToken.eq N _) ?_
  refine EvP.andK (spec_l1Cur_block_s (b := 0) h0 (by omega) (by omega) (by omega)) ?_
  intro u1 q1
  obtain ⟨p2, p3, p4, p5, -⟩ := q1
  refine EvP.andK (spec_l1Cur_nonce_s (b := 38) p3 (by omega) (by omega) (by omega)) ?_
  intro u2 q6
  obtain ⟨p7, p8, p9, p10, -⟩ := q6
  refine EvP.andK (spec_l1Cur_address_s (b := 68) p8 (by omega) (by omega) (by omega)) ?_
  intro u3 q11
  obtain ⟨p12, p13, p14, p15, -⟩ := q11
  refine EvP.andK (spec_l1Cur_minted_s (b := 110) p13 (by omega) (by omega) (by omega)) ?_
  intro u4 q16
  obtain ⟨p17, p18, p19, p20, p21, p22, -⟩ := q16
  exact EvP.some ⟨(by (try dsimp only); omega), (by (try dsimp only); omega), (by (try dsimp only); omega), (by (try dsimp only); omega), (by (try dsimp only); omega), (by (try dsimp only); omega), trivial⟩

end Go.Proofs.Ytakemokmdlogoaa.CFnTokens
