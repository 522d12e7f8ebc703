/- What is drawn: it comes to an end, and how large it is. Written by a program of this session; Lean checks it. -/
import Derived.Test.YtknoemdkfhkkhaaQCuFnIds
import Derived.Test.YtknoemdkfhkkhaaQCuAmongFnIds
set_option linter.unusedVariables false
set_option maxRecDepth 10000
namespace Go.Proofs.Ytknoemdkfhkkhaa.CFnIds
open Go Go.Proofs Go.Proofs.YtknoemdkfhkkhaaPM Go.Proofs.Ytknoemdkfhkkhaa.Q Go.Proofs.Ytknoemdkfhkkhaa.GFnIds

theorem spec_l1Cur_config_s {b : Int} {p0_0 : (List Int)} {p0_1 : Int} {p0_2 : Int} (h0 : ∀ y ∈ p0_0, 0 ≤ y ∧ y ≤ 255) (h1 : 0 ≤ p0_1) (h2 : p0_1 ≤ b) (hb : b ≤ 4611686018423999988) : EvP (fun N => spec_l1Cur_config N p0_0 p0_1 p0_2) (fun r => (-1) ≤ r.1.1.1 ∧ r.1.1.1 ≤ 7 ∧ 0 ≤ r.1.1.2.1 ∧ r.1.1.2.1 ≤ 16 ∧ 3 ≤ r.1.1.2.2.1 ∧ r.1.1.2.2.1 ≤ 19 ∧ (r.1.1.2.2.2.1.size : Int) ≤ 16 ∧ (∀ y ∈ r.2.1.1, 0 ≤ y ∧ y ≤ 255) ∧ 0 ≤ r.2.1.2.1 ∧ r.2.1.2.1 ≤ (b + 48) ∧ True) := by
  refine EvP.of (fun N => spec_l1Cur_config.eq N _ _ _) ?_
  refine EvP.andK (pick_s (b := b) (n := 3) (m := 2) h0 (by omega) (by omega) (by omega) (by omega) (by omega)) ?_
  intro u1 q1
  obtain ⟨q2, q3⟩ := q1
  obtain ⟨p4, p5, p6, p7⟩ := q2
  obtain ⟨p8, p9, p10, -⟩ := q3
  refine EvP.andK (pick_s (b := (b + 2)) (n := 4) (m := 3) p8 (by omega) (by omega) (by omega) (by omega) (by omega)) ?_
  intro u2 q11
  obtain ⟨q12, q13⟩ := q11
  obtain ⟨p14, p15, p16, p17⟩ := q12
  obtain ⟨p18, p19, p20, -⟩ := q13
  refine EvP.andK (pick_s (b := (b + 4)) (n := 6) (m := 5) p18 (by omega) (by omega) (by omega) (by omega) (by omega)) ?_
  intro u3 q21
  obtain ⟨q22, q23⟩ := q21
  obtain ⟨p24, p25, p26, p27⟩ := q22
  obtain ⟨p28, p29, p30, -⟩ := q23
  refine EvP.andK (one_s (b := (b + 6)) p28 (by omega) (by omega) (by omega)) ?_
  intro u4 q31
  obtain ⟨p32, p33, p34, -⟩ := q31
  refine EvP.andK (Q := fun r => (∀ y ∈ r.2.1.1, 0 ≤ y ∧ y ≤ 255) ∧ 0 ≤ r.2.1.2.1 ∧ r.2.1.2.1 ≤ (b + 10) ∧ 0 ≤ r.2.2.1.1 ∧ r.2.2.1.1 ≤ 0 ∧ 0 ≤ r.2.2.1.2.1 ∧ r.2.2.1.2.1 ≤ 0 ∧ 0 ≤ r.2.2.1.2.2.1 ∧ r.2.2.1.2.2.1 ≤ 0 ∧ (r.2.2.1.2.2.2.1.size : Int) ≤ 0 ∧ 0 ≤ r.2.2.2.1.1 ∧ r.2.2.2.1.1 ≤ 2 ∧ 1 ≤ r.2.2.2.1.2.1 ∧ r.2.2.2.1.2.1 ≤ 4 ∧ 4 ≤ r.2.2.2.1.2.2.1 ∧ r.2.2.2.1.2.2.1 ≤ 15 ∧ (r.2.2.2.1.2.2.2.1.size : Int) ≤ 0 ∧ True) ?_ ?_
  · refine EvP.andK (one_s (b := (b + 8)) p32 (by omega) (by omega) (by omega)) ?_
    intro u5 q35
    obtain ⟨p36, p37, p38, -⟩ := q35
    refine EvP.sel (fun c39 => ?_) (fun c39 => ?_)
    · have f40 : (⟨#[]⟩ : ByteArray).size = 0 := rfl
      have f41 := i64w (n := (1 + u2.1.1)) (by omega) (by omega)
      have f42 := i64w (n := (16 - (IntKind.i64.wrap (1 + u2.1.1)))) (by omega) (by omega)
      exact EvP.some ⟨p36, (by (try dsimp only); omega), (by (try dsimp only); omega), (by (try dsimp only); omega), (by (try dsimp only); omega), (by (try dsimp only); omega), (by (try dsimp only); omega), (by (try dsimp only); omega), (by (try dsimp only); omega), (by (try dsimp only); omega), (by (try dsimp only); omega), (by (try dsimp only); omega), (by (try dsimp only); omega), (by (try dsimp only); omega), (by (try dsimp only); omega), (by (try dsimp only); omega), (by (try dsimp only); omega), trivial⟩
    · have f43 : (⟨#[]⟩ : ByteArray).size = 0 := rfl
      have f44 := i64w (n := (1 + u2.1.1)) (by omega) (by omega)
      have f45 := i64w (n := (4 + u3.1.1)) (by omega) (by omega)
      exact EvP.some ⟨p36, (by (try dsimp only); omega), (by (try dsimp only); omega), (by (try dsimp only); omega), (by (try dsimp only); omega), (by (try dsimp only); omega), (by (try dsimp only); omega), (by (try dsimp only); omega), (by (try dsimp only); omega), (by (try dsimp only); omega), (by (try dsimp only); omega), (by (try dsimp only); omega), (by (try dsimp only); omega), (by (try dsimp only); omega), (by (try dsimp only); omega), (by (try dsimp only); omega), (by (try dsimp only); omega), trivial⟩
  · intro j6 q46
    obtain ⟨p47, p48, p49, p50, p51, p52, p53, p54, p55, p56, p57, p58, p59, p60, p61, p62, p63, -⟩ := q46
    refine EvP.andK (Q := fun r => (∀ y ∈ r.2.1.1, 0 ≤ y ∧ y ≤ 255) ∧ 0 ≤ r.2.1.2.1 ∧ r.2.1.2.1 ≤ (b + 44) ∧ 0 ≤ r.2.2.1.1 ∧ r.2.2.1.1 ≤ 0 ∧ 0 ≤ r.2.2.1.2.1 ∧ r.2.2.1.2.1 ≤ 0 ∧ 0 ≤ r.2.2.1.2.2.1 ∧ r.2.2.1.2.2.1 ≤ 0 ∧ (r.2.2.1.2.2.2.1.size : Int) ≤ 0 ∧ 0 ≤ r.2.2.2.1.1 ∧ r.2.2.2.1.1 ≤ 2 ∧ 1 ≤ r.2.2.2.1.2.1 ∧ r.2.2.2.1.2.1 ≤ 4 ∧ 4 ≤ r.2.2.2.1.2.2.1 ∧ r.2.2.2.1.2.2.1 ≤ 15 ∧ (r.2.2.2.1.2.2.2.1.size : Int) ≤ 16 ∧ True) ?_ ?_
    · refine EvP.andK (one_s (b := (b + 10)) p47 (by omega) (by omega) (by omega)) ?_
      intro u7 q64
      obtain ⟨p65, p66, p67, -⟩ := q64
      refine EvP.sel (fun c68 => ?_) (fun c68 => ?_)
      · refine EvP.andK (sized_s (b := (b + 12)) (n := 16) (m := 16) p65 (by omega) (by omega) (by decide) (by omega) (by omega) (by omega)) ?_
        intro u8 q69
        obtain ⟨p70, p71, p72, p73, p74, -⟩ := q69
        have f75 := strL_size u8.2.2.1
        exact EvP.some ⟨p70, (by (try dsimp only); omega), (by (try dsimp only); omega), (by (try dsimp only); omega), (by (try dsimp only); omega), (by (try dsimp only); omega), (by (try dsimp only); omega), (by (try dsimp only); omega), (by (try dsimp only); omega), (by (try dsimp only); omega), (by (try dsimp only); omega), (by (try dsimp only); omega), (by (try dsimp only); omega), (by (try dsimp only); omega), (by (try dsimp only); omega), (by (try dsimp only); omega), (by (try dsimp only); omega), trivial⟩
      · exact EvP.some ⟨p65, (by (try dsimp only); omega), (by (try dsimp only); omega), (by (try dsimp only); omega), (by (try dsimp only); omega), (by (try dsimp only); omega), (by (try dsimp only); omega), (by (try dsimp only); omega), (by (try dsimp only); omega), (by (try dsimp only); omega), (by (try dsimp only); omega), (by (try dsimp only); omega), (by (try dsimp only); omega), (by (try dsimp only); omega), (by (try dsimp only); omega), (by (try dsimp only); omega), (by (try dsimp only); omega), trivial⟩
    · intro j9 q76
      obtain ⟨p77, p78, p79, p80, p81, p82, p83, p84, p85, p86, p87, p88, p89, p90, p91, p92, p93, -⟩ := q76
      refine EvP.andK (pick_s (b := (b + 44)) (n := 30) (m := 29) p77 (by omega) (by omega) (by omega) (by omega) (by omega)) ?_
      intro u10 q94
      obtain ⟨q95, q96⟩ := q94
      obtain ⟨p97, p98, p99, p100⟩ := q95
      obtain ⟨p101, p102, p103, -⟩ := q96
      refine EvP.ite (fun c104 => ?_) (fun c104 => ?_)
      · have f105 : ([(-1), 6, 7] : List Int).length = 3 := rfl
        refine EvP.andK (among_s (b := (b + 46)) (P := fun y => (-1) ≤ y ∧ y ≤ 7) (all_cons ⟨(by (try dsimp only); omega), (by (try dsimp only); omega)⟩ (all_cons ⟨(by (try dsimp only); omega), (by (try dsimp only); omega)⟩ (all_cons ⟨(by (try dsimp only); omega), (by (try dsimp only); omega)⟩ all_nil))) (by decide) p101 (by omega) (by omega) (by omega)) ?_
        intro u11 q106
        obtain ⟨q107, q108⟩ := q106
        obtain ⟨p109, p110⟩ := q107
        obtain ⟨p111, p112, p113, -⟩ := q108
        exact EvP.some ⟨(by (try dsimp only); omega), (by (try dsimp only); omega), (by (try dsimp only); omega), (by (try dsimp only); omega), (by (try dsimp only); omega), (by (try dsimp only); omega), (by (try dsimp only); omega), p111, (by (try dsimp only); omega), (by (try dsimp only); omega), trivial⟩
      · refine EvP.ite (fun c114 => ?_) (fun c114 => ?_)
        · have f115 : ([0, 15, 16] : List Int).length = 3 := rfl
          refine EvP.andK (among_s (b := (b + 46)) (P := fun y => 0 ≤ y ∧ y ≤ 16) (all_cons ⟨(by (try dsimp only); omega), (by (try dsimp only); omega)⟩ (all_cons ⟨(by (try dsimp only); omega), (by (try dsimp only); omega)⟩ (all_cons ⟨(by (try dsimp only); omega), (by (try dsimp only); omega)⟩ all_nil))) (by decide) p101 (by omega) (by omega) (by omega)) ?_
          intro u12 q116
          obtain ⟨q117, q118⟩ := q116
          obtain ⟨p119, p120⟩ := q117
          obtain ⟨p121, p122, p123, -⟩ := q118
          exact EvP.some ⟨(by (try dsimp only); omega), (by (try dsimp only); omega), (by (try dsimp only); omega), (by (try dsimp only); omega), (by (try dsimp only); omega), (by (try dsimp only); omega), (by (try dsimp only); omega), p121, (by (try dsimp only); omega), (by (try dsimp only); omega), trivial⟩
        · refine EvP.ite (fun c124 => ?_) (fun c124 => ?_)
          · have f125 : (⟨#[115, 104, 111, 114, 116]⟩ : ByteArray).size = 5 := rfl
            exact EvP.some ⟨(by (try dsimp only); omega), (by (try dsimp only); omega), (by (try dsimp only); omega), (by (try dsimp only); omega), (by (try dsimp only); omega), (by (try dsimp only); omega), (by (try dsimp only); omega), p101, (by (try dsimp only); omega), (by (try dsimp only); omega), trivial⟩
          · refine EvP.ite (fun c126 => ?_) (fun c126 => ?_)
            · have f127 : ([3, 18, 19] : List Int).length = 3 := rfl
              refine EvP.andK (among_s (b := (b + 46)) (P := fun y => 3 ≤ y ∧ y ≤ 19) (all_cons ⟨(by (try dsimp only); omega), (by (try dsimp only); omega)⟩ (all_cons ⟨(by (try dsimp only); omega), (by (try dsimp only); omega)⟩ (all_cons ⟨(by (try dsimp only); omega), (by (try dsimp only); omega)⟩ all_nil))) (by decide) p101 (by omega) (by omega) (by omega)) ?_
              intro u13 q128
              obtain ⟨q129, q130⟩ := q128
              obtain ⟨p131, p132⟩ := q129
              obtain ⟨p133, p134, p135, -⟩ := q130
              exact EvP.some ⟨(by (try dsimp only); omega), (by (try dsimp only); omega), (by (try dsimp only); omega), (by (try dsimp only); omega), (by (try dsimp only); omega), (by (try dsimp only); omega), (by (try dsimp only); omega), p133, (by (try dsimp only); omega), (by (try dsimp only); omega), trivial⟩
            · exact EvP.some ⟨(by (try dsimp only); omega), (by (try dsimp only); omega), (by (try dsimp only); omega), (by (try dsimp only); omega), (by (try dsimp only); omega), (by (try dsimp only); omega), (by (try dsimp only); omega), p101, (by (try dsimp only); omega), (by (try dsimp only); omega), trivial⟩

theorem spec_l1In_s {n : Int} {lo : Int} {hi : Int} (h0 : 0 ≤ n) (h1 : n ≤ 17) (h2 : 0 ≤ lo) (h3 : lo ≤ 0) (h4 : 30 ≤ hi) (h5 : hi ≤ 30) : EvP (fun N => spec_l1In N n lo hi) (fun r => True) := by
  refine EvP.of (fun N => spec_l1In.eq N _ _ _) ?_
  refine EvP.pos (by omega) ?_
  exact EvP.some trivial

theorem spec_l1In_s2 {n : Int} {lo : Int} {hi : Int} (h0 : 3 ≤ n) (h1 : n ≤ 19) (h2 : 0 ≤ lo) (h3 : lo ≤ 0) (h4 : 30 ≤ hi) (h5 : hi ≤ 30) : EvP (fun N => spec_l1In N n lo hi) (fun r => True) := by
  refine EvP.of (fun N => spec_l1In.eq N _ _ _) ?_
  refine EvP.pos (by omega) ?_
  exact EvP.some trivial

theorem spec_DrawEncodeId_s {code : (List Int)} (h0 : ∀ y ∈ code, 0 ≤ y ∧ y ≤ 255) : EvP (fun N => spec_DrawEncodeId N code) (fun r => (-1) ≤ r.1.1.1 ∧ r.1.1.1 ≤ 7 ∧ 0 ≤ r.1.1.2.1 ∧ r.1.1.2.1 ≤ 16 ∧ 3 ≤ r.1.1.2.2.1 ∧ r.1.1.2.2.1 ≤ 19 ∧ (r.1.1.2.2.2.1.size : Int) ≤ 16 ∧ (r.1.2.1.size : Int) ≤ 17 ∧ (r.1.2.2.1.size : Int) ≤ 19 ∧ (-1) ≤ r.1.2.2.2.1 ∧ r.1.2.2.2.1 ≤ 32 ∧ True) := by
  refine EvP.of (fun N => spec_DrawEncodeId.eq N _) ?_
  refine EvP.andK (spec_l1Cur_config_s (b := 0) h0 (by omega) (by omega) (by omega)) ?_
  intro u1 q1
  obtain ⟨p2, p3, p4, p5, p6, p7, p8, p9, p10, p11, -⟩ := q1
  refine EvP.andK (Q := fun r => 0 ≤ r.1.2.2.2.1 ∧ r.1.2.2.2.1 ≤ 17 ∧ 0 ≤ r.2.1.1 ∧ r.2.1.1 ≤ 0 ∧ 0 ≤ r.2.1.2.1 ∧ r.2.1.2.1 ≤ 0 ∧ 0 ≤ r.2.1.2.2.1 ∧ r.2.1.2.2.1 ≤ 0 ∧ (r.2.1.2.2.2.1.size : Int) ≤ 0 ∧ (∀ y ∈ r.2.2.1.1, 0 ≤ y ∧ y ≤ 255) ∧ 0 ≤ r.2.2.1.2.1 ∧ r.2.2.1.2.1 ≤ 50 ∧ (-1) ≤ r.2.2.2.1.1 ∧ r.2.2.2.1.1 ≤ 7 ∧ 0 ≤ r.2.2.2.1.2.1 ∧ r.2.2.2.1.2.1 ≤ 16 ∧ 3 ≤ r.2.2.2.1.2.2.1 ∧ r.2.2.2.1.2.2.1 ≤ 19 ∧ (r.2.2.2.1.2.2.2.1.size : Int) ≤ 16 ∧ True) ?_ ?_
  · refine EvP.andK (one_s (b := 48) p9 (by omega) (by omega) (by omega)) ?_
    intro u2 q12
    obtain ⟨p13, p14, p15, -⟩ := q12
    refine EvP.sel (fun c16 => ?_) (fun c16 => ?_)
    · have f17 := i64w (n := (u1.1.1.2.1 + 1)) (by omega) (by omega)
      have f18 : (⟨#[]⟩ : ByteArray).size = 0 := rfl
      exact EvP.some ⟨(by (try dsimp only); omega), (by (try dsimp only); omega), (by (try dsimp only); omega), (by (try dsimp only); omega), (by (try dsimp only); omega), (by (try dsimp only); omega), (by (try dsimp only); omega), (by (try dsimp only); omega), (by (try dsimp only); omega), p13, (by (try dsimp only); omega), (by (try dsimp only); omega), (by (try dsimp only); omega), (by (try dsimp only); omega), (by (try dsimp only); omega), (by (try dsimp only); omega), (by (try dsimp only); omega), (by (try dsimp only); omega), (by (try dsimp only); omega), trivial⟩
    · have f19 : (⟨#[]⟩ : ByteArray).size = 0 := rfl
      exact EvP.some ⟨(by (try dsimp only); omega), (by (try dsimp only); omega), (by (try dsimp only); omega), (by (try dsimp only); omega), (by (try dsimp only); omega), (by (try dsimp only); omega), (by (try dsimp only); omega), (by (try dsimp only); omega), (by (try dsimp only); omega), p13, (by (try dsimp only); omega), (by (try dsimp only); omega), (by (try dsimp only); omega), (by (try dsimp only); omega), (by (try dsimp only); omega), (by (try dsimp only); omega), (by (try dsimp only); omega), (by (try dsimp only); omega), (by (try dsimp only); omega), trivial⟩
  · intro j3 q20
    obtain ⟨p21, p22, p23, p24, p25, p26, p27, p28, p29, p30, p31, p32, p33, p34, p35, p36, p37, p38, p39, -⟩ := q20
    refine EvP.andK (Q := fun r => 0 ≤ r.1.2.2.2.1 ∧ r.1.2.2.2.1 ≤ 17 ∧ 3 ≤ r.1.2.2.2.2.1 ∧ r.1.2.2.2.2.1 ≤ 19 ∧ 0 ≤ r.2.1.1 ∧ r.2.1.1 ≤ 0 ∧ 0 ≤ r.2.1.2.1 ∧ r.2.1.2.1 ≤ 0 ∧ 0 ≤ r.2.1.2.2.1 ∧ r.2.1.2.2.1 ≤ 0 ∧ (r.2.1.2.2.2.1.size : Int) ≤ 0 ∧ (∀ y ∈ r.2.2.1.1, 0 ≤ y ∧ y ≤ 255) ∧ 0 ≤ r.2.2.1.2.1 ∧ r.2.2.1.2.1 ≤ 50 ∧ (-1) ≤ r.2.2.2.1.1 ∧ r.2.2.2.1.1 ≤ 7 ∧ 0 ≤ r.2.2.2.1.2.1 ∧ r.2.2.2.1.2.1 ≤ 16 ∧ 3 ≤ r.2.2.2.1.2.2.1 ∧ r.2.2.2.1.2.2.1 ≤ 19 ∧ (r.2.2.2.1.2.2.2.1.size : Int) ≤ 16 ∧ True) ?_ ?_
    · refine EvP.andK (Q := fun r => 0 ≤ r.2.1.1 ∧ r.2.1.1 ≤ 0 ∧ 0 ≤ r.2.1.2.1 ∧ r.2.1.2.1 ≤ 0 ∧ 0 ≤ r.2.1.2.2.1 ∧ r.2.1.2.2.1 ≤ 0 ∧ (r.2.1.2.2.2.1.size : Int) ≤ 0 ∧ (∀ y ∈ r.2.2.1.1, 0 ≤ y ∧ y ≤ 255) ∧ 0 ≤ r.2.2.1.2.1 ∧ r.2.2.1.2.1 ≤ 50 ∧ (-1) ≤ r.2.2.2.1.1 ∧ r.2.2.2.1.1 ≤ 7 ∧ 0 ≤ r.2.2.2.1.2.1 ∧ r.2.2.2.1.2.1 ≤ 16 ∧ 3 ≤ r.2.2.2.1.2.2.1 ∧ r.2.2.2.1.2.2.1 ≤ 19 ∧ (r.2.2.2.1.2.2.2.1.size : Int) ≤ 16 ∧ True) ?_ ?_
      · refine EvP.andK (spec_l1In_s (by omega) (by omega) (by omega) (by omega) (by omega) (by omega)) ?_
        intro u4 q40
        refine EvP.sel (fun c41 => ?_) (fun c41 => ?_)
        · exact EvP.some ⟨(by (try dsimp only); omega), (by (try dsimp only); omega), (by (try dsimp only); omega), (by (try dsimp only); omega), (by (try dsimp only); omega), (by (try dsimp only); omega), (by (try dsimp only); omega), p30, (by (try dsimp only); omega), (by (try dsimp only); omega), (by (try dsimp only); omega), (by (try dsimp only); omega), (by (try dsimp only); omega), (by (try dsimp only); omega), (by (try dsimp only); omega), (by (try dsimp only); omega), (by (try dsimp only); omega), trivial⟩
        · refine EvP.andK (spec_l1In_s2 (by omega) (by omega) (by omega) (by omega) (by omega) (by omega)) ?_
          intro u5 q42
          exact EvP.some ⟨(by (try dsimp only); omega), (by (try dsimp only); omega), (by (try dsimp only); omega), (by (try dsimp only); omega), (by (try dsimp only); omega), (by (try dsimp only); omega), (by (try dsimp only); omega), p30, (by (try dsimp only); omega), (by (try dsimp only); omega), (by (try dsimp only); omega), (by (try dsimp only); omega), (by (try dsimp only); omega), (by (try dsimp only); omega), (by (try dsimp only); omega), (by (try dsimp only); omega), (by (try dsimp only); omega), trivial⟩
      · intro j6 q43
        obtain ⟨p44, p45, p46, p47, p48, p49, p50, p51, p52, p53, p54, p55, p56, p57, p58, p59, p60, -⟩ := q43
        refine EvP.sel (fun c61 => ?_) (fun c61 => ?_)
        · exact EvP.some ⟨(by (try dsimp only); omega), (by (try dsimp only); omega), (by (try dsimp only); omega), (by (try dsimp only); omega), (by (try dsimp only); omega), (by (try dsimp only); omega), (by (try dsimp only); omega), (by (try dsimp only); omega), (by (try dsimp only); omega), (by (try dsimp only); omega), (by (try dsimp only); omega), p51, (by (try dsimp only); omega), (by (try dsimp only); omega), (by (try dsimp only); omega), (by (try dsimp only); omega), (by (try dsimp only); omega), (by (try dsimp only); omega), (by (try dsimp only); omega), (by (try dsimp only); omega), (by (try dsimp only); omega), trivial⟩
        · exact EvP.some ⟨(by (try dsimp only); omega), (by (try dsimp only); omega), (by (try dsimp only); omega), (by (try dsimp only); omega), (by (try dsimp only); omega), (by (try dsimp only); omega), (by (try dsimp only); omega), (by (try dsimp only); omega), (by (try dsimp only); omega), (by (try dsimp only); omega), (by (try dsimp only); omega), p51, (by (try dsimp only); omega), (by (try dsimp only); omega), (by (try dsimp only); omega), (by (try dsimp only); omega), (by (try dsimp only); omega), (by (try dsimp only); omega), (by (try dsimp only); omega), (by (try dsimp only); omega), (by (try dsimp only); omega), trivial⟩
    · intro j7 q62
      obtain ⟨p63, p64, p65, p66, p67, p68, p69, p70, p71, p72, p73, p74, p75, p76, p77, p78, p79, p80, p81, p82, p83, -⟩ := q62
      refine EvP.andK (pick_s (b := 50) (n := 32) (m := 31) p74 (by omega) (by omega) (by omega) (by omega) (by omega)) ?_
      intro u8 q84
      obtain ⟨q85, q86⟩ := q84
      obtain ⟨p87, p88, p89, p90⟩ := q85
      obtain ⟨p91, p92, p93, -⟩ := q86
      refine EvP.andK (Q := fun r => (-1) ≤ r.1.2.2.2.1 ∧ r.1.2.2.2.1 ≤ 32 ∧ 0 ≤ r.2.1.1 ∧ r.2.1.1 ≤ 0 ∧ 0 ≤ r.2.1.2.1 ∧ r.2.1.2.1 ≤ 0 ∧ 0 ≤ r.2.1.2.2.1 ∧ r.2.1.2.2.1 ≤ 0 ∧ (r.2.1.2.2.2.1.size : Int) ≤ 0 ∧ (∀ y ∈ r.2.2.1.1, 0 ≤ y ∧ y ≤ 255) ∧ 0 ≤ r.2.2.1.2.1 ∧ r.2.2.1.2.1 ≤ 56 ∧ (-1) ≤ r.2.2.2.1.1 ∧ r.2.2.2.1.1 ≤ 7 ∧ 0 ≤ r.2.2.2.1.2.1 ∧ r.2.2.2.1.2.1 ≤ 16 ∧ 3 ≤ r.2.2.2.1.2.2.1 ∧ r.2.2.2.1.2.2.1 ≤ 19 ∧ (r.2.2.2.1.2.2.2.1.size : Int) ≤ 16 ∧ True) ?_ ?_
      · refine EvP.andK (one_s (b := 52) p91 (by omega) (by omega) (by omega)) ?_
        intro u9 q94
        obtain ⟨p95, p96, p97, -⟩ := q94
        refine EvP.sel (fun c98 => ?_) (fun c98 => ?_)
        · have f99 : ([(-1), 32] : List Int).length = 2 := rfl
          refine EvP.andK (among_s (b := 54) (P := fun y => (-1) ≤ y ∧ y ≤ 32) (all_cons ⟨(by (try dsimp only); omega), (by (try dsimp only); omega)⟩ (all_cons ⟨(by (try dsimp only); omega), (by (try dsimp only); omega)⟩ all_nil)) (by decide) p95 (by omega) (by omega) (by omega)) ?_
          intro u10 q100
          obtain ⟨q101, q102⟩ := q100
          obtain ⟨p103, p104⟩ := q101
          obtain ⟨p105, p106, p107, -⟩ := q102
          exact EvP.some ⟨(by (try dsimp only); omega), (by (try dsimp only); omega), (by (try dsimp only); omega), (by (try dsimp only); omega), (by (try dsimp only); omega), (by (try dsimp only); omega), (by (try dsimp only); omega), (by (try dsimp only); omega), (by (try dsimp only); omega), p105, (by (try dsimp only); omega), (by (try dsimp only); omega), (by (try dsimp only); omega), (by (try dsimp only); omega), (by (try dsimp only); omega), (by (try dsimp only); omega), (by (try dsimp only); omega), (by (try dsimp only); omega), (by (try dsimp only); omega), trivial⟩
        · exact EvP.some ⟨(by (try dsimp only); omega), (by (try dsimp only); omega), (by (try dsimp only); omega), (by (try dsimp only); omega), (by (try dsimp only); omega), (by (try dsimp only); omega), (by (try dsimp only); omega), (by (try dsimp only); omega), (by (try dsimp only); omega), p95, (by (try dsimp only); omega), (by (try dsimp only); omega), (by (try dsimp only); omega), (by (try dsimp only); omega), (by (try dsimp only); omega), (by (try dsimp only); omega), (by (try dsimp only); omega), (by (try dsimp only); omega), (by (try dsimp only); omega), trivial⟩
      · intro j11 q108
        obtain ⟨p109, p110, p111, p112, p113, p114, p115, p116, p117, p118, p119, p120, p121, p122, p123, p124, p125, p126, p127, -⟩ := q108
        refine EvP.andK (sized_s (b := 56) (n := j7.1.2.2.2.1) (m := 17) p118 (by omega) (by omega) (by decide) (by omega) (by omega) (by omega)) ?_
        intro u12 q128
        obtain ⟨p129, p130, p131, p132, p133, -⟩ := q128
        refine EvP.andK (sized_s (b := 90) (n := j7.1.2.2.2.2.1) (m := 19) p129 (by omega) (by omega) (by decide) (by omega) (by omega) (by omega)) ?_
        intro u13 q134
        obtain ⟨p135, p136, p137, p138, p139, -⟩ := q134
        have f140 := strL_size u12.2.2.1
        have f141 := strL_size u13.2.2.1
        exact EvP.some ⟨(by (try dsimp only); omega), (by (try dsimp only); omega), (by (try dsimp only); omega), (by (try dsimp only); omega), (by (try dsimp only); omega), (by (try dsimp only); omega), (by (try dsimp only); omega), (by (try dsimp only); omega), (by (try dsimp only); omega), (by (try dsimp only); omega), (by (try dsimp only); omega), trivial⟩

end Go.Proofs.Ytknoemdkfhkkhaa.CFnIds
