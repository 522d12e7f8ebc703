/- The program's ReadHeader. -/
import Derived.Test.YtcngjidojibleabQHeadImplFnHeaders
import Derived.Test.YtcngjidojibleabQGoodHImplFnHeaders
set_option linter.unusedVariables false
set_option linter.unusedSimpArgs false
namespace Go.Proofs.Ytcngjidojibleab.CFnHeaders
open Go Go.Proofs Go.Proofs.YtcngjidojibleabPM Go.Proofs.Ytcngjidojibleab.Q Go.Proofs.Ytcngjidojibleab.GFnHeaders

theorem ReadHeader_impl (s : ByteArray) (hs : s.size ≤ 900000) (short : Int) (h0 : 0 ≤ short) (h20 : short ≤ 20) : EvP (fun N => impl_ReadHeader N s short) (RPost (readH s short)) := by
  have hmm : mmI true short 0 = short := by unfold mmI; dsimp only; rw [if_neg (by omega)]
  refine EvP.of (fun N => impl_ReadHeader.eq N _ _) (EvP.andK (byte_impl s false) ?_)
  rintro u ⟨a1, r1, r2, y1⟩
  rw [hmm]
  unfold readH
  cases hb : rdByte s with
  | none =>
    have a2 := Run.fails (s := s) a1 hb
    rw [cst_none] at a2
    exact EvP.yes a2 (EvP.some ⟨by dsimp only; decide, rfl, rfl⟩)
  | some x =>
    obtain ⟨b, l1⟩ := x
    obtain ⟨a2, a3⟩ := Run.gives (s := s) a1 hb
    rw [cst_some] at a3
    obtain ⟨a3, a4⟩ := a3
    have hl1 : l1.size ≤ s.size := by rw [← a4]; exact y1
    refine EvP.no a3 ?_
    rw [a2] at r1 r2
    rw [a2, a3, a4]
    obtain ⟨b1, b2, b3, b4, b5, b6⟩ := head_bits r1 r2
    rw [show ((some (b, l1)).bind fun x => if x.1 / 64 % 2 = 0 then none else (HeaderP x.1 short x.2).bind fun y => if headOk x.1 y.1 then some (y.1, (s.size : Int) - (y.2.size : Int)) else none) = (if b / 64 % 2 = 0 then none else (HeaderP b short l1).bind fun y => if headOk b y.1 then some (y.1, (s.size : Int) - (y.2.size : Int)) else none) from rfl]
    refine EvP.ite (fun h => ?_) (fun h => ?_)
    · rw [if_pos (b2.1 h)]
      exact EvP.some ⟨by dsimp only; decide, rfl, rfl⟩
    rw [if_neg (fun h' => h (b2.2 h')), b6]
    refine EvP.andK (header_impl r1 r2 h0 l1 (by omega) false) ?_
    intro v a5
    refine EvP.andK (Q := fun j => j.1.2.2.2.1 = decide ((v.1.1.1 = 5 ∨ v.1.1.1 = 4) ∧ ¬ b / 16 % 4 = 0) ∧ j.2.2.1 = v.2.1 ∧ j.2.2.2.1 = v.1.1) ?_ ?_
    · refine EvP.ite (fun h5 => EvP.some ⟨?_, rfl, rfl⟩) (fun h5 => EvP.ite (fun h4 => EvP.some ⟨?_, rfl, rfl⟩) (fun h4 => EvP.some ⟨?_, rfl, rfl⟩))
      · dsimp only
        by_cases h6 : b / 16 % 4 = 0
        · rw [decide_eq_true h6, decide_eq_false (fun hq => hq.2 h6)]; rfl
        · rw [decide_eq_false h6, decide_eq_true ⟨.inl h5, h6⟩]; rfl
      · dsimp only
        by_cases h6 : b / 16 % 4 = 0
        · rw [decide_eq_true h6, decide_eq_false (fun hq => hq.2 h6)]; rfl
        · rw [decide_eq_false h6, decide_eq_true ⟨.inr h4, h6⟩]; rfl
      · dsimp only
        rw [decide_eq_false (fun hq => hq.1.elim h5 h4)]
    rintro j ⟨c1, c2, c3⟩
    rw [c1, c2, c3]
    cases hp : HeaderP b short l1 with
    | none =>
      have a6 := Run.fails (s := l1) a5 hp
      rw [cst_none] at a6
      exact EvP.yes a6 (EvP.some ⟨by dsimp only; decide, rfl, rfl⟩)
    | some y =>
      obtain ⟨hd, l2⟩ := y
      obtain ⟨a6, a7⟩ := Run.gives (s := l1) a5 hp
      rw [cst_some] at a7
      obtain ⟨a7, a8⟩ := a7
      refine EvP.no a7 ?_
      have hlen := head_versions hp
      rw [a6, a8]
      refine EvP.andK (Q := fun i => i.1.2.2.2.1 = decide (¬ headOk b hd) ∧ i.2.2.1.1 = l2 ∧ i.2.2.2.1 = hd) ?_ ?_
      · refine EvP.ite (fun hq => EvP.some ⟨?_, rfl, rfl⟩) (fun hq => ?_)
        · rw [decide_eq_true (p := ¬ headOk b hd) (fun hg => hq.2 (hg.1 hq.1))]
        · refine EvP.to (EvP.of (fun N => impl_shortOk.eq N _) (EvP.to (in_impl _ _ _) (EvP.some rfl))) (EvP.no (by dsimp only; rw [decide_eq_true ⟨h0, h20⟩]; rfl) (EvP.to (good_impl _ _ _ _ _ _ _ _ (by omega)) (EvP.some ⟨?_, rfl, rfl⟩)))
          dsimp only
          have hok : headOk b hd ↔ GoodH hd.1 hd.2.1 hd.2.2.1 hd.2.2.2.1 hd.2.2.2.2.1 hd.2.2.2.2.2.1 hd.2.2.2.2.2.2.1 hd.2.2.2.2.2.2.2.1 :=
            ⟨fun hg => hg.2, fun hg => ⟨fun hf => Classical.byContradiction fun hn => hq ⟨hf, hn⟩, hg⟩⟩
          by_cases hg : headOk b hd
          · rw [decide_eq_true (hok.1 hg), decide_eq_false (fun hn => hn hg)]; rfl
          · rw [decide_eq_false (fun hn => hg (hok.2 hn)), decide_eq_true (p := ¬ headOk b hd) hg]; rfl
      · rintro i ⟨d1, d2, d3⟩
        rw [d1, d2, d3]
        rw [show ((some (hd, l2)).bind fun y => if headOk b y.1 then some (y.1, (s.size : Int) - (y.2.size : Int)) else none) = if headOk b hd then some (hd, (s.size : Int) - (l2.size : Int)) else none from rfl]
        refine EvP.ite (fun hg => ?_) (fun hg => ?_)
        · rw [if_neg hg]
          exact EvP.some ⟨by dsimp only; decide, rfl, rfl⟩
        · rw [if_pos (Classical.not_not.1 hg)]
          have := Less.head _ _ _ _ _ hp
          rw [i64w (by omega) (by omega)]
          exact EvP.some rfl
end Go.Proofs.Ytcngjidojibleab.CFnHeaders
