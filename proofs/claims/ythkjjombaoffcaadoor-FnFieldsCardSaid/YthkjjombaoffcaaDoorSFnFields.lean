/- What is drawn: it comes to an end, and how large it is. Written by a program of this session; Lean checks it. -/
import Derived.Test.YthkjjombaoffcaaDoorQCuFnFields
import Derived.Test.YthkjjombaoffcaaDoorQCuOfFnFields
set_option linter.unusedVariables false
set_option maxRecDepth 10000
namespace Go.Proofs.YthkjjombaoffcaaDoor.CFnFields
open Go Go.Proofs Go.Proofs.YthkjjombaoffcaaDoorPM Go.Proofs.YthkjjombaoffcaaDoor.Q Go.Proofs.YthkjjombaoffcaaDoor.GFnFields

theorem spec_l15Static_s : EvP (fun N => spec_l15Static N) (fun r => (r.1.1.length : Int) ≤ 16 ∧ (∀ y ∈ r.1.1, (y.1.size : Int) ≤ 16 ∧ 4 ≤ (y.1.size : Int) ∧ (y.2.size : Int) ≤ 11) ∧ True) := by
  refine EvP.of (fun N => spec_l15Static.eq N) ?_
  have f1 : ([((⟨#[58, 97, 117, 116, 104, 111, 114, 105, 116, 121]⟩ : ByteArray), (⟨#[]⟩ : ByteArray)), ((⟨#[58, 112, 97, 116, 104]⟩ : ByteArray), (⟨#[47]⟩ : ByteArray)), ((⟨#[58, 109, 101, 116, 104, 111, 100]⟩ : ByteArray), (⟨#[67, 79, 78, 78, 69, 67, 84]⟩ : ByteArray)), ((⟨#[58, 109, 101, 116, 104, 111, 100]⟩ : ByteArray), (⟨#[71, 69, 84]⟩ : ByteArray)), ((⟨#[58, 109, 101, 116, 104, 111, 100]⟩ : ByteArray), (⟨#[80, 79, 83, 84]⟩ : ByteArray)), ((⟨#[58, 115, 99, 104, 101, 109, 101]⟩ : ByteArray), (⟨#[104, 116, 116, 112]⟩ : ByteArray)), ((⟨#[58, 115, 99, 104, 101, 109, 101]⟩ : ByteArray), (⟨#[104, 116, 116, 112, 115]⟩ : ByteArray)), ((⟨#[58, 115, 116, 97, 116, 117, 115]⟩ : ByteArray), (⟨#[50, 48, 48]⟩ : ByteArray)), ((⟨#[58, 115, 116, 97, 116, 117, 115]⟩ : ByteArray), (⟨#[52, 48, 52]⟩ : ByteArray)), ((⟨#[58, 115, 116, 97, 116, 117, 115]⟩ : ByteArray), (⟨#[53, 48, 51]⟩ : ByteArray)), ((⟨#[58, 112, 114, 111, 116, 111, 99, 111, 108]⟩ : ByteArray), (⟨#[99, 111, 110, 110, 101, 99, 116, 45, 117, 100, 112]⟩ : ByteArray)), ((⟨#[99, 97, 112, 115, 117, 108, 101, 45, 112, 114, 111, 116, 111, 99, 111, 108]⟩ : ByteArray), (⟨#[63, 49]⟩ : ByteArray)), ((⟨#[99, 111, 110, 116, 101, 110, 116, 45, 108, 101, 110, 103, 116, 104]⟩ : ByteArray), (⟨#[48]⟩ : ByteArray)), ((⟨#[100, 97, 116, 101]⟩ : ByteArray), (⟨#[]⟩ : ByteArray)), ((⟨#[117, 115, 101, 114, 45, 97, 103, 101, 110, 116]⟩ : ByteArray), (⟨#[]⟩ : ByteArray)), ((⟨#[97, 99, 99, 101, 112, 116]⟩ : ByteArray), (⟨#[42, 47, 42]⟩ : ByteArray))] : List (ByteArray × ByteArray)).length = 16 := rfl
  have f2 : (⟨#[58, 97, 117, 116, 104, 111, 114, 105, 116, 121]⟩ : ByteArray).size = 10 := rfl
  have f3 : (⟨#[]⟩ : ByteArray).size = 0 := rfl
  have f4 : (⟨#[58, 112, 97, 116, 104]⟩ : ByteArray).size = 5 := rfl
  have f5 : (⟨#[47]⟩ : ByteArray).size = 1 := rfl
  have f6 : (⟨#[58, 109, 101, 116, 104, 111, 100]⟩ : ByteArray).size = 7 := rfl
  have f7 : (⟨#[67, 79, 78, 78, 69, 67, 84]⟩ : ByteArray).size = 7 := rfl
  have f8 : (⟨#[71, 69, 84]⟩ : ByteArray).size = 3 := rfl
  have f9 : (⟨#[80, 79, 83, 84]⟩ : ByteArray).size = 4 := rfl
  have f10 : (⟨#[58, 115, 99, 104, 101, 109, 101]⟩ : ByteArray).size = 7 := rfl
  have f11 : (⟨#[104, 116, 116, 112]⟩ : ByteArray).size = 4 := rfl
  have f12 : (⟨#[104, 116, 116, 112, 115]⟩ : ByteArray).size = 5 := rfl
  have f13 : (⟨#[58, 115, 116, 97, 116, 117, 115]⟩ : ByteArray).size = 7 := rfl
  have f14 : (⟨#[50, 48, 48]⟩ : ByteArray).size = 3 := rfl
  have f15 : (⟨#[52, 48, 52]⟩ : ByteArray).size = 3 := rfl
  have f16 : (⟨#[53, 48, 51]⟩ : ByteArray).size = 3 := rfl
  have f17 : (⟨#[58, 112, 114, 111, 116, 111, 99, 111, 108]⟩ : ByteArray).size = 9 := rfl
  have f18 : (⟨#[99, 111, 110, 110, 101, 99, 116, 45, 117, 100, 112]⟩ : ByteArray).size = 11 := rfl
  have f19 : (⟨#[99, 97, 112, 115, 117, 108, 101, 45, 112, 114, 111, 116, 111, 99, 111, 108]⟩ : ByteArray).size = 16 := rfl
  have f20 : (⟨#[63, 49]⟩ : ByteArray).size = 2 := rfl
  have f21 : (⟨#[99, 111, 110, 116, 101, 110, 116, 45, 108, 101, 110, 103, 116, 104]⟩ : ByteArray).size = 14 := rfl
  have f22 : (⟨#[48]⟩ : ByteArray).size = 1 := rfl
  have f23 : (⟨#[100, 97, 116, 101]⟩ : ByteArray).size = 4 := rfl
  have f24 : (⟨#[117, 115, 101, 114, 45, 97, 103, 101, 110, 116]⟩ : ByteArray).size = 10 := rfl
  have f25 : (⟨#[97, 99, 99, 101, 112, 116]⟩ : ByteArray).size = 6 := rfl
  have f26 : (⟨#[42, 47, 42]⟩ : ByteArray).size = 3 := rfl
  exact EvP.some ⟨(by (try dsimp only); omega), (all_cons ⟨(by (try dsimp only); omega), (by (try dsimp only); omega), (by (try dsimp only); omega)⟩ (all_cons ⟨(by (try dsimp only); omega), (by (try dsimp only); omega), (by (try dsimp only); omega)⟩ (all_cons ⟨(by (try dsimp only); omega), (by (try dsimp only); omega), (by (try dsimp only); omega)⟩ (all_cons ⟨(by (try dsimp only); omega), (by (try dsimp only); omega), (by (try dsimp only); omega)⟩ (all_cons ⟨(by (try dsimp only); omega), (by (try dsimp only); omega), (by (try dsimp only); omega)⟩ (all_cons ⟨(by (try dsimp only); omega), (by (try dsimp only); omega), (by (try dsimp only); omega)⟩ (all_cons ⟨(by (try dsimp only); omega), (by (try dsimp only); omega), (by (try dsimp only); omega)⟩ (all_cons ⟨(by (try dsimp only); omega), (by (try dsimp only); omega), (by (try dsimp only); omega)⟩ (all_cons ⟨(by (try dsimp only); omega), (by (try dsimp only); omega), (by (try dsimp only); omega)⟩ (all_cons ⟨(by (try dsimp only); omega), (by (try dsimp only); omega), (by (try dsimp only); omega)⟩ (all_cons ⟨(by (try dsimp only); omega), (by (try dsimp only); omega), (by (try dsimp only); omega)⟩ (all_cons ⟨(by (try dsimp only); omega), (by (try dsimp only); omega), (by (try dsimp only); omega)⟩ (all_cons ⟨(by (try dsimp only); omega), (by (try dsimp only); omega), (by (try dsimp only); omega)⟩ (all_cons ⟨(by (try dsimp only); omega), (by (try dsimp only); omega), (by (try dsimp only); omega)⟩ (all_cons ⟨(by (try dsimp only); omega), (by (try dsimp only); omega), (by (try dsimp only); omega)⟩ (all_cons ⟨(by (try dsimp only); omega), (by (try dsimp only); omega), (by (try dsimp only); omega)⟩ all_nil)))))))))))))))), trivial⟩

theorem spec_l1Cur_field_l0_s {b : Int} (hb : b ≤ 4611686018427000000) (d : Nat) : ∀ (t : Int) (t48 : Int) (t49 : Int) (p0_01 : (List Int)) (p0_11 : Int) (p0_21 : Int) (p1_0 : ByteArray) (p1_1 : ByteArray) (p2_0 : ByteArray) (p2_1 : ByteArray) (p3 : (List Int)), 0 ≤ t → t ≤ 101 → t + (t48 - t49) ≤ 101 → t48 - t49 ≤ (d : Int) → 0 ≤ t48 → t48 ≤ 101 → 0 ≤ t49 → t49 ≤ 102 → (∀ y ∈ p0_01, 0 ≤ y ∧ y ≤ 255) → 0 ≤ p0_11 → p0_11 ≤ b → (p1_0.size : Int) ≤ 0 → (p1_1.size : Int) ≤ 0 → (p2_0.size : Int) ≤ 16 → 1 ≤ (p2_0.size : Int) → (p2_1.size : Int) ≤ 5 → (p3.length : Int) ≤ 101 → (∀ y ∈ p3, 0 ≤ y ∧ y ≤ 97) → t48 = (p3.length : Int) → EvP (fun N => spec_l1Cur_field.l0 N t48 t49 p0_01 p0_11 p0_21 p1_0 p1_1 p2_0 p2_1 p3) (fun r => (∀ y ∈ r.2.1.1, 0 ≤ y ∧ y ≤ 255) ∧ 0 ≤ r.2.1.2.1 ∧ r.2.1.2.1 ≤ b ∧ (r.2.2.1.1.size : Int) ≤ 0 ∧ (r.2.2.1.2.1.size : Int) ≤ 0 ∧ (r.2.2.2.1.1.size : Int) ≤ 16 ∧ 1 ≤ (r.2.2.2.1.1.size : Int) ∧ (r.2.2.2.1.2.1.size : Int) ≤ 5 ∧ (r.2.2.2.2.1.length : Int) ≤ 101 ∧ (∀ y ∈ r.2.2.2.2.1, 0 ≤ y ∧ y ≤ 97) ∧ True) := by
  induction d with
  | zero =>
    intro t t48 t49 p0_01 p0_11 p0_21 p1_0 p1_1 p2_0 p2_1 p3 t0 t1 t2 t3 h0 h1 h2 h3 h4 h5 h6 h7 h8 h9 h10 h11 h12 h13 e0
    refine EvP.step (fun N => spec_l1Cur_field.l0.eq N _ _ _ _ _ _ _ _ _ _) ?_
    refine EvP.ite (fun c1 => ?_) (fun c1 => ?_)
    · refine EvP.chk (and_i (decide_eq_true (by omega)) (decide_eq_true (by omega))) ?_
      omega
    · exact EvP.some ⟨h4, (by (try dsimp only); omega), (by (try dsimp only); omega), (by (try dsimp only); omega), (by (try dsimp only); omega), (by (try dsimp only); omega), (by (try dsimp only); omega), (by (try dsimp only); omega), (by (try dsimp only); omega), h13, trivial⟩
  | succ d ih =>
    intro t t48 t49 p0_01 p0_11 p0_21 p1_0 p1_1 p2_0 p2_1 p3 t0 t1 t2 t3 h0 h1 h2 h3 h4 h5 h6 h7 h8 h9 h10 h11 h12 h13 e0
    refine EvP.step (fun N => spec_l1Cur_field.l0.eq N _ _ _ _ _ _ _ _ _ _) ?_
    refine EvP.ite (fun c1 => ?_) (fun c1 => ?_)
    · refine EvP.chk (and_i (decide_eq_true (by omega)) (decide_eq_true (by omega))) ?_
      have f2 := i64w (n := (t49 + 1)) (by omega) (by omega)
      have f3 : (p3.set (Int.toNat t49) 97).length = p3.length := List.length_set
      exact ih (t + 1) _ _ _ _ _ _ _ _ _ _ (by omega) (by omega) (by omega) (by omega) (by omega) (by omega) (by omega) (by omega) h4 (by omega) (by omega) (by omega) (by omega) (by omega) (by omega) (by omega) (by omega) (all_set h13 ⟨(by (try dsimp only); omega), (by (try dsimp only); omega)⟩) (by omega)
    · exact EvP.some ⟨h4, (by (try dsimp only); omega), (by (try dsimp only); omega), (by (try dsimp only); omega), (by (try dsimp only); omega), (by (try dsimp only); omega), (by (try dsimp only); omega), (by (try dsimp only); omega), (by (try dsimp only); omega), h13, trivial⟩

theorem static16 : EvP (fun N => spec_l15Static N) (fun r => ((r.1.1.length : Nat) : Int) = 16) := EvP.of (fun N => spec_l15Static.eq N) (EvP.some rfl)
theorem spec_l1Cur_field_s {b : Int} {p0_0 : (List Int)} {p0_1 : Int} {p0_2 : Int} (h0 : ∀ y ∈ p0_0, 0 ≤ y ∧ y ≤ 255) (h1 : 0 ≤ p0_1) (h2 : p0_1 ≤ b) (hb : b ≤ 4611686018426999990) : EvP (fun N => spec_l1Cur_field N p0_0 p0_1 p0_2) (fun r => (r.1.1.1.size : Int) ≤ 16 ∧ (r.1.1.2.1.size : Int) ≤ 101 ∧ (∀ y ∈ r.2.1.1, 0 ≤ y ∧ y ≤ 255) ∧ 0 ≤ r.2.1.2.1 ∧ r.2.1.2.1 ≤ (b + 10) ∧ True) := by
  refine EvP.of (fun N => spec_l1Cur_field.eq N _ _ _) ?_
  refine EvP.andK (one_s (b := b) h0 (by omega) (by omega) (by omega)) ?_
  intro u1 q1
  obtain ⟨p2, p3, p4, -⟩ := q1
  refine EvP.sel (fun c5 => ?_) (fun c5 => ?_)
  · refine EvP.andK (EvP.both spec_l15Static_s static16) ?_
    intro u2 q6
    obtain ⟨⟨p7, p8, -⟩, p7e⟩ := q6
    refine EvP.andK (pick_s (b := (b + 2)) (n := 16) (m := 15) p2 (by omega) (by omega) (by omega) (by omega) (by omega)) ?_
    intro u3 q9
    obtain ⟨q10, q11⟩ := q9
    obtain ⟨p12, p13, p14, p15⟩ := q10
    obtain ⟨p16, p17, p18, -⟩ := q11
    refine EvP.chk (and_i (decide_eq_true (by omega)) (decide_eq_true (by omega))) ?_
    refine EvP.andK (Q := fun r => (∀ y ∈ r.2.1.1, 0 ≤ y ∧ y ≤ 255) ∧ 0 ≤ r.2.1.2.1 ∧ r.2.1.2.1 ≤ (b + 8) ∧ (r.2.2.1.1.size : Int) ≤ 0 ∧ (r.2.2.1.2.1.size : Int) ≤ 0 ∧ (r.2.2.2.1.1.size : Int) ≤ 16 ∧ (r.2.2.2.1.2.1.size : Int) ≤ 11 ∧ True) ?_ ?_
    · refine EvP.andK (one_s (b := (b + 4)) p16 (by omega) (by omega) (by omega)) ?_
      intro u4 q19
      obtain ⟨p20, p21, p22, -⟩ := q19
      refine EvP.sel (fun c23 => ?_) (fun c23 => ?_)
      · have f24 : ([(⟨#[]⟩ : ByteArray), (⟨#[120]⟩ : ByteArray), (⟨#[118, 97, 108, 117, 101, 32, 111, 110, 101]⟩ : ByteArray)] : List ByteArray).length = 3 := rfl
        have f25 : (⟨#[]⟩ : ByteArray).size = 0 := rfl
        have f26 : (⟨#[120]⟩ : ByteArray).size = 1 := rfl
        have f27 : (⟨#[118, 97, 108, 117, 101, 32, 111, 110, 101]⟩ : ByteArray).size = 9 := rfl
        refine EvP.andK (of_s (b := (b + 6)) (P := fun y => (y.size : Int) ≤ 9) (all_cons (by (try dsimp only); omega) (all_cons (by (try dsimp only); omega) (all_cons (by (try dsimp only); omega) all_nil))) (by decide) p20 (by omega) (by omega) (by omega)) ?_
        intro u5 q28
        obtain ⟨q29, q30⟩ := q28
        obtain ⟨p32, p33, p34, -⟩ := q30
        have g35 := rdS_all ((.pair .str .str)) (P := fun (y : (ByteArray × ByteArray)) => (y.1.size : Int) ≤ 16 ∧ (y.2.size : Int) ≤ 11) (fun y hy => by have q := p8 y hy; (try dsimp only at q ⊢); omega) (Int.toNat u3.1.1) (by simp [Sh.dflt])
        obtain ⟨g36, g37⟩ := g35
        exact EvP.some ⟨p32, (by (try dsimp only); omega), (by (try dsimp only); omega), (by (try dsimp only); omega), (by (try dsimp only); omega), (by (try dsimp only); omega), (by (try dsimp only); omega), trivial⟩
      · have f38 : (⟨#[]⟩ : ByteArray).size = 0 := rfl
        have g39 := rdS_all ((.pair .str .str)) (P := fun (y : (ByteArray × ByteArray)) => (y.1.size : Int) ≤ 16 ∧ (y.2.size : Int) ≤ 11) (fun y hy => by have q := p8 y hy; (try dsimp only at q ⊢); omega) (Int.toNat u3.1.1) (by simp [Sh.dflt])
        obtain ⟨g40, g41⟩ := g39
        exact EvP.some ⟨p20, (by (try dsimp only); omega), (by (try dsimp only); omega), (by (try dsimp only); omega), (by (try dsimp only); omega), (by (try dsimp only); omega), (by (try dsimp only); omega), trivial⟩
    · intro j6 q42
      obtain ⟨p43, p44, p45, p46, p47, p48, p49, -⟩ := q42
      exact EvP.some ⟨(by (try dsimp only); omega), (by (try dsimp only); omega), p43, (by (try dsimp only); omega), (by (try dsimp only); omega), trivial⟩
  · have f50 : ([(⟨#[120]⟩ : ByteArray), (⟨#[110, 97, 109, 101, 45, 116, 119, 111]⟩ : ByteArray), (⟨#[58, 111, 116, 104, 101, 114]⟩ : ByteArray), (⟨#[108, 111, 110, 103, 101, 114, 45, 110, 97, 109, 101, 45, 104, 101, 114, 101]⟩ : ByteArray)] : List ByteArray).length = 4 := rfl
    have f51 : (⟨#[120]⟩ : ByteArray).size = 1 := rfl
    have f52 : (⟨#[110, 97, 109, 101, 45, 116, 119, 111]⟩ : ByteArray).size = 8 := rfl
    have f53 : (⟨#[58, 111, 116, 104, 101, 114]⟩ : ByteArray).size = 6 := rfl
    have f54 : (⟨#[108, 111, 110, 103, 101, 114, 45, 110, 97, 109, 101, 45, 104, 101, 114, 101]⟩ : ByteArray).size = 16 := rfl
    refine EvP.andK (of_s (b := (b + 2)) (P := fun y => (y.size : Int) ≤ 16 ∧ 1 ≤ (y.size : Int)) (all_cons ⟨(by (try dsimp only); omega), (by (try dsimp only); omega)⟩ (all_cons ⟨(by (try dsimp only); omega), (by (try dsimp only); omega)⟩ (all_cons ⟨(by (try dsimp only); omega), (by (try dsimp only); omega)⟩ (all_cons ⟨(by (try dsimp only); omega), (by (try dsimp only); omega)⟩ all_nil)))) (by decide) p2 (by omega) (by omega) (by omega)) ?_
    intro u7 q55
    obtain ⟨q56, q57⟩ := q55
    obtain ⟨p58, p59⟩ := q56
    obtain ⟨p60, p61, p62, -⟩ := q57
    have f63 : ([(⟨#[]⟩ : ByteArray), (⟨#[118]⟩ : ByteArray), (⟨#[118, 97, 108, 117, 101]⟩ : ByteArray)] : List ByteArray).length = 3 := rfl
    have f64 : (⟨#[]⟩ : ByteArray).size = 0 := rfl
    have f65 : (⟨#[118]⟩ : ByteArray).size = 1 := rfl
    have f66 : (⟨#[118, 97, 108, 117, 101]⟩ : ByteArray).size = 5 := rfl
    refine EvP.andK (of_s (b := (b + 4)) (P := fun y => (y.size : Int) ≤ 5) (all_cons (by (try dsimp only); omega) (all_cons (by (try dsimp only); omega) (all_cons (by (try dsimp only); omega) all_nil))) (by decide) p60 (by omega) (by omega) (by omega)) ?_
    intro u8 q67
    obtain ⟨q68, q69⟩ := q67
    obtain ⟨p71, p72, p73, -⟩ := q69
    refine EvP.andK (pick_s (b := (b + 6)) (n := 30) (m := 29) p71 (by omega) (by omega) (by omega) (by omega) (by omega)) ?_
    intro u9 q74
    obtain ⟨q75, q76⟩ := q74
    obtain ⟨p77, p78, p79, p80⟩ := q75
    obtain ⟨p81, p82, p83, -⟩ := q76
    refine EvP.ite (fun c84 => ?_) (fun c84 => ?_)
    · have f85 : ([(⟨#[]⟩ : ByteArray), (⟨#[65]⟩ : ByteArray), (⟨#[97, 58, 98]⟩ : ByteArray)] : List ByteArray).length = 3 := rfl
      have f86 : (⟨#[65]⟩ : ByteArray).size = 1 := rfl
      have f87 : (⟨#[97, 58, 98]⟩ : ByteArray).size = 3 := rfl
      refine EvP.andK (of_s (b := (b + 8)) (P := fun y => (y.size : Int) ≤ 3) (all_cons (by (try dsimp only); omega) (all_cons (by (try dsimp only); omega) (all_cons (by (try dsimp only); omega) all_nil))) (by decide) p81 (by omega) (by omega) (by omega)) ?_
      intro u10 q88
      obtain ⟨q89, q90⟩ := q88
      obtain ⟨p92, p93, p94, -⟩ := q90
      exact EvP.some ⟨(by (try dsimp only); omega), (by (try dsimp only); omega), p92, (by (try dsimp only); omega), (by (try dsimp only); omega), trivial⟩
    · refine EvP.ite (fun c95 => ?_) (fun c95 => ?_)
      · have f96 : (List.replicate 3 (0 : Int)).length = _ := List.length_replicate
        have f97 := strL_size (List.replicate 3 (0 : Int))
        exact EvP.some ⟨(by (try dsimp only); omega), (by (try dsimp only); omega), p81, (by (try dsimp only); omega), (by (try dsimp only); omega), trivial⟩
      · refine EvP.ite (fun c98 => ?_) (fun c98 => ?_)
        · refine EvP.andK (pick_s (b := (b + 8)) (n := 2) (m := 1) p81 (by omega) (by omega) (by omega) (by omega) (by omega)) ?_
          intro u11 q99
          obtain ⟨q100, q101⟩ := q99
          obtain ⟨p102, p103, p104, p105⟩ := q100
          obtain ⟨p106, p107, p108, -⟩ := q101
          have f109 := i64w (n := (100 + u11.1.1)) (by omega) (by omega)
          refine EvP.chk (and_i (decide_eq_true (by omega)) (and_i (smallI_i (by omega) (by omega)) (decide_eq_true (by omega)))) ?_
          have f110 : (List.replicate (Int.toNat (IntKind.i64.wrap (100 + u11.1.1))) (0 : Int)).length = _ := List.length_replicate
          refine EvP.andK (spec_l1Cur_field_l0_s (b := (b + 10)) (by omega) 101 0 _ _ _ _ _ _ _ _ _ _ (by omega) (by omega) (by omega) (by omega) (by omega) (by omega) (by omega) (by omega) p106 (by omega) (by omega) (by omega) (by omega) (by omega) (by omega) (by omega) (by omega) (all_rep (by simp)) (by omega)) ?_
          intro l12 q111
          obtain ⟨p112, p113, p114, p115, p116, p117, p118, p119, p120, p121, -⟩ := q111
          have f122 := strL_size l12.2.2.2.2.1
          exact EvP.some ⟨(by (try dsimp only); omega), (by (try dsimp only); omega), p112, (by (try dsimp only); omega), (by (try dsimp only); omega), trivial⟩
        · exact EvP.some ⟨(by (try dsimp only); omega), (by (try dsimp only); omega), p81, (by (try dsimp only); omega), (by (try dsimp only); omega), trivial⟩

end Go.Proofs.YthkjjombaoffcaaDoor.CFnFields
