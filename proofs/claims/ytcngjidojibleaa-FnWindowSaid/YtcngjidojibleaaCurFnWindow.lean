/- The drawing cursor: what its steps tell, and that they never stop. -/
import Derived.Test.YtcngjidojibleaaStr
import Derived.Test.YtcngjidojibleaaPFnWindowx0
import Derived.Test.YtcngjidojibleaaPFnWindowx1
import Derived.Test.YtcngjidojibleaaPFnWindowx2
import Derived.Test.YtcngjidojibleaaPFnWindowx3
import Derived.Test.YtcngjidojibleaaPFnWindowx4
import Derived.Test.YtcngjidojibleaaPFnWindowx5
import Derived.Test.YtcngjidojibleaaPFnWindowx6
import Derived.Test.YtcngjidojibleaaPFnWindowx7
set_option linter.unusedVariables false
set_option linter.unusedSimpArgs false
namespace Go.Proofs.Ytcngjidojibleaa.CFnWindow
open Go.RowKit Go.Proofs.Ytcngjidojibleaa.B Go.Proofs.Ytcngjidojibleaa.PFnWindow Go.Proofs.YtcngjidojibleaaW.PrintWords Go.Proofs.YtcngjidojibleaaW.PrintLast Go.Proofs.YtcngjidojibleaaW.PrintMore

theorem next_ok {l : List Int} (hl : Bytes l) (a s : Int) (h0 : 0 ≤ a) (h1 : a ≤ 4611686018427387904) :
    Post (spec_l1Cur_next.f l a s) (fun r => 0 ≤ r.1 ∧ r.1 ≤ 255 ∧ r.2.1 = a + 1) := by
  unfold spec_l1Cur_next.f
  rw [w64 (n := a + 1) (by omega) (by omega)]
  have hr := bytes_rd hl a
  rw [w64 (n := rd l a) (by omega) (by omega)]
  refine Post.ite (fun _ => Post.pos h0 (Post.ite (fun _ => Post.some ?_) (fun _ => Post.some ?_))) (fun _ => Post.ite (fun _ => Post.some ?_) (fun _ => Post.some ?_))
  · exact ⟨hr.1, hr.2, rfl⟩
  · exact ⟨(conv255 _).1, (conv255 _).2, rfl⟩
  · exact ⟨by simp, by simp, rfl⟩
  · exact ⟨(conv255 _).1, (conv255 _).2, rfl⟩

theorem pick_ok {l : List Int} (hl : Bytes l) (a s n : Int) (h0 : 0 ≤ a) (h1 : a ≤ 4611686018427387000) :
    Post (spec_l1Cur_pick.f l a s n) (fun r => 0 ≤ r.1 ∧ r.1 ≤ 65535 ∧ (1 ≤ n → r.1 < n) ∧ (n ≤ 1 → r.1 = 0) ∧ a ≤ r.2.1 ∧ r.2.1 ≤ a + 2) := by
  unfold spec_l1Cur_pick.f
  refine Post.ite (fun h => Post.some ⟨by simp, by simp, fun _ => by simp; omega, fun _ => rfl, by simp, by simp; omega⟩) (fun h => ?_)
  refine Post.bind (next_ok hl a s h0 (by omega)) ?_
  intro b hb
  refine Post.ite (fun h2 => ?_) (fun h2 => ?_)
  · refine Post.bind (next_ok hl _ _ (by omega) (by omega)) ?_
    intro c hc
    refine Post.neg (by omega) (Post.some ?_)
    dsimp only
    rw [w64 (n := b.1 * 256) (by omega) (by omega), w64 (n := b.1 * 256 + c.1) (by omega) (by omega), Int.tmod_eq_emod_of_nonneg (by omega)]
    have e1 := Int.emod_nonneg (b.1 * 256 + c.1) (show n ≠ 0 by omega)
    have e2 := Int.emod_lt_of_pos (b.1 * 256 + c.1) (show 0 < n by omega)
    have e3 : (b.1 * 256 + c.1) % n ≤ b.1 * 256 + c.1 := emod_le (by omega) (by omega)
    exact ⟨e1, by omega, fun _ => e2, fun _ => by omega, by omega, by omega⟩
  · refine Post.neg (by omega) (Post.some ?_)
    dsimp only
    rw [Int.tmod_eq_emod_of_nonneg (by omega)]
    have e1 := Int.emod_nonneg b.1 (show n ≠ 0 by omega)
    have e2 := Int.emod_lt_of_pos b.1 (show 0 < n by omega)
    have e3 : b.1 % n ≤ b.1 := emod_le (by omega) (by omega)
    exact ⟨e1, by omega, fun _ => e2, fun _ => by omega, by omega, by omega⟩

theorem one_ok {l : List Int} (hl : Bytes l) (a s n : Int) (h0 : 0 ≤ a) (h1 : a ≤ 4611686018427387000) :
    Post (spec_l1Cur_one.f l a s n) (fun r => a ≤ r.2.1 ∧ r.2.1 ≤ a + 2) := by
  unfold spec_l1Cur_one.f
  refine Post.bind (pick_ok hl a s n h0 h1) ?_
  intro b hb
  exact Post.some ⟨by simp only; omega, by simp only; omega⟩
end Go.Proofs.Ytcngjidojibleaa.CFnWindow
