/- The drawing cursor: a wide number, and a number of all sizes. -/
import Derived.Test.YtcggngmcaicdpabCurAmongFnVarints
set_option linter.unusedVariables false
set_option linter.unusedSimpArgs false
namespace Go.Proofs.Ytcggngmcaicdpab.CFnVarints
open Go.RowKit Go.Proofs.Ytcggngmcaicdpab.B Go.Proofs.Ytcggngmcaicdpab.PFnVarints Go.Proofs.YtcggngmcaicdpabW.PrintWords Go.Proofs.YtcggngmcaicdpabW.PrintLast Go.Proofs.YtcggngmcaicdpabW.PrintMore

theorem wide_l0 {l : List Int} (hl : Bytes l) (j : Nat) : ∀ (i : Nat) (x a s : Int), i + j = 8 → 0 ≤ a → a ≤ 4611686018427380000 + i → EvP (fun k => spec_l1Cur_wide.l0 k x (i : Int) l a s) (fun r => a ≤ r.2.1 ∧ r.2.1 ≤ a + j) := by
  induction j with
  | zero =>
    intro i x a s hi h0 h1
    refine EvP.step (fun k => by rw [spec_l1Cur_wide.l0]) ?_
    exact EvP.neg (by omega) (EvP.some (by simp))
  | succ j ih =>
    intro i x a s hi h0 h1
    refine EvP.step (fun k => by rw [spec_l1Cur_wide.l0]) ?_
    refine EvP.pos (by omega) ?_
    refine EvP.bind0 (next_ok hl a s h0 (by omega)) ?_
    intro b hb
    rw [w64 (n := (i : Int) + 1) (by omega) (by omega)]
    refine (ih (i + 1) _ b.2.1 b.2.2 (by omega) (by omega) (by omega)).mono ?_
    intro r hr
    omega
theorem num_ok {l : List Int} (hl : Bytes l) (a s : Int) (h0 : 0 ≤ a) (h1 : a ≤ 4611686018427370000) : EvP (fun k => spec_l1Cur_num.f k l a s) (fun r => a ≤ r.2.1 ∧ r.2.1 ≤ a + 10) := by
  simp only [spec_l1Cur_num.f]
  refine EvP.bind0 (pick_ok hl a s 8 h0 (by omega)) ?_
  intro p hp
  refine EvP.ite (fun _ => ?_) (fun _ => EvP.ite (fun _ => ?_) (fun _ => ?_))
  · refine EvP.bind0 (among_ok hl _ _ (by omega) (by omega) _ (by simp)) ?_
    intro q hq
    exact EvP.some (by simp only; omega)
  · have hw := wide_l0 hl 8 0 0 p.2.1 p.2.2 (by omega) (by omega) (by omega)
    refine EvP.bind (g := fun k => spec_l1Cur_wide.f k l p.2.1 p.2.2) (by simp only [spec_l1Cur_wide.f]; exact hw) ?_
    intro q hq
    exact EvP.some (by simp only; omega)
  · refine EvP.bind0 (pick_ok hl _ _ 300 (by omega) (by omega)) ?_
    intro q hq
    exact EvP.some (by simp only; omega)
end Go.Proofs.Ytcggngmcaicdpab.CFnVarints
