/- FnWindow: whatever is drawn, a window is never below two datagrams, a loss halves it once in a recovery, what was sent fits, and both packages tell the same. -/
import Derived.Test.YtcngjidojibleaaWinFnWindow
set_option linter.unusedVariables false
set_option linter.unusedSimpArgs false
namespace Go.Proofs.Ytcngjidojibleaa.Pure
open Go.RowKit Go.Proofs.Ytcngjidojibleaa.B Go.Proofs.Ytcngjidojibleaa.CFnWindow Go.Proofs.Ytcngjidojibleaa.PFnWindow Go.Proofs.YtcngjidojibleaaW.PrintWords Go.Proofs.YtcngjidojibleaaW.PrintLast Go.Proofs.YtcngjidojibleaaW.PrintMore

theorem drawLost_ok {l : List Int} (hl : Bytes l) : EvP (fun k => spec_DrawLostBytes.f k l) (fun _ => True) := by
  simp only [spec_DrawLostBytes.f]
  refine EvP.bind (drawAcked_ok hl) ?_
  intro p hp
  refine EvP.bind0 (pick_ok hl 0 0 120 (by omega) (by omega)) ?_
  intro q hq
  exact EvP.some trivial
theorem drawSent_ok {l : List Int} (hl : Bytes l) : EvP (fun k => spec_DrawSentBytes.f k l) (fun _ => True) := by
  simp only [spec_DrawSentBytes.f]
  refine EvP.bind (window_ok hl 0 0 (by omega) (by omega)) ?_
  intro p hp
  refine EvP.bind0 (pick_ok hl _ _ 1700 (by omega) (by omega)) ?_
  intro q hq
  exact EvP.some trivial
theorem j5_ok (a b c d : Int) : EvP (fun k => laws_FnWindow.j5 k false a b c d) (· = true) := by
  refine EvP.step (fun k => by rw [laws_FnWindow.j5]) ?_
  refine EvP.neg (by simp) ?_
  rw [stal_impl]
  simp only [Option.bind_some]
  unfold StalR
  refine EvP.ite (fun h => EvP.some ?_) (fun h => EvP.some rfl)
  by_cases hg : GW a b c d
  · rw [if_pos hg]; rfl
  · rw [if_neg hg] at h; simp at h
theorem j4_ok {l : List Int} (hl : Bytes l) : EvP (fun k => laws_FnWindow.j4 k l) (· = true) := by
  refine EvP.step (fun k => by rw [laws_FnWindow.j4]) ?_
  refine EvP.bind (drawSent_ok hl) ?_
  rintro ⟨a, b, c, d, s⟩ -
  dsimp only
  rw [sent_impl, sent_spec]
  unfold impl_RoomIn.f
  rw [gw_impl]
  simp only [Option.bind_some]
  by_cases hc : GW a b c d ∧ Sz s ∧ d + s ≤ a
  · have e : SentR a b c d s = (a, b, c, d + s, true) := by unfold SentR; rw [if_pos hc]
    rw [e]
    obtain ⟨hg, hs, hz⟩ := hc
    rw [if_pos (by simpa using hg)]
    have hg' := hg; have hs' := hs
    unfold GW at hg'; unfold Sz at hs'
    simp only [Option.bind_some]
    refine EvP.neg (by simp) (EvP.pos (by first | rfl | trivial) (EvP.pos (by first | rfl | trivial) (EvP.neg ?_ ?_)))
    · unfold mx; rw [w64 (n := a - d) (by omega) (by omega)]; split <;> omega
    · rw [w64 (n := d + s) (by omega) (by omega), show ((d + s) != (d + s)) = false by simp]
      exact j5_ok _ _ _ _
  · have e : SentR a b c d s = (0, 0, 0, 0, false) := by unfold SentR; rw [if_neg hc]
    rw [e]
    by_cases hg : GW a b c d
    · rw [if_pos (by simpa using hg)]
      simp only [Option.bind_some]
      exact EvP.neg (by simp) (EvP.neg (by simp) (j5_ok _ _ _ _))
    · rw [if_neg (by simpa using hg)]
      simp only [Option.bind_some]
      exact EvP.neg (by simp) (EvP.neg (by simp) (j5_ok _ _ _ _))
theorem j3_ok {l : List Int} (hl : Bytes l) : EvP (fun k => laws_FnWindow.j3 k l false) (· = true) := by
  refine EvP.step (fun k => by rw [laws_FnWindow.j3]) ?_
  exact EvP.neg (by simp) (j4_ok hl)
theorem j2_ok {l : List Int} (hl : Bytes l) (n a b c d : Int) (hg : GW a b c d) (hn : Tk n) : EvP (fun k => laws_FnWindow.j2 k l n false a b c d) (· = true) := by
  refine EvP.step (fun k => by rw [laws_FnWindow.j2]) ?_
  refine EvP.neg (by simp) ?_
  refine EvP.bind (lost_impl a b c d 0 c n) ?_
  rintro r rfl
  refine EvP.ite (fun h => ?_) (fun h => j3_ok hl)
  have hg' := hg
  unfold GW at hg'
  have e : LostR a b c d 0 c n = (a, b, c, d - 0, true) := by
    unfold LostR
    rw [if_pos ⟨hg, by unfold Sz; omega, by unfold Tk; omega, hn, by omega⟩, if_neg (by omega)]
  rw [e]
  refine EvP.pos (by first | rfl | trivial) ?_
  rw [show (a != a) = false by simp]
  exact j3_ok hl
theorem j1_ok {l : List Int} (hl : Bytes l) (s t n a b c d : Int) (hg : GW a b c d) (hs : Sz s) (ht : Tk t) (hn : Tk n) (hd : s ≤ d) :
    EvP (fun k => laws_FnWindow.j1 k l s t n (half a) a b c d (LostR a b c d s t n).1 (LostR a b c d s t n).2.1 (LostR a b c d s t n).2.2.1 (LostR a b c d s t n).2.2.2.1) (· = true) := by
  have hg' := hg
  unfold GW at hg'
  have hs' := hs; unfold Sz at hs'
  have hn' := hn; unfold Tk at hn'
  have hh : 2400 ≤ half a ∧ half a ≤ 100000000 := by unfold half; split <;> omega
  unfold LostR
  rw [if_pos ⟨hg, hs, ht, hn, hd⟩]
  refine EvP.step (fun k => by rw [laws_FnWindow.j1]) ?_
  rw [w64 (n := d - s) (by omega) (by omega)]
  by_cases hc : t > c
  · rw [if_pos hc]
    dsimp only
    have hg2 : GW (half a) (half a) n (d - s) := by unfold GW; omega
    rw [gw_impl]
    simp only [Option.bind_some]
    refine EvP.pos (by simpa using hg2) (EvP.pos (by first | rfl | trivial) (EvP.pos hc (EvP.pos (by first | rfl | trivial) (EvP.neg (by omega) ?_))))
    exact j2_ok hl _ _ _ _ _ hg2 hn
  · rw [if_neg hc]
    dsimp only
    have hg2 : GW a b c (d - s) := by unfold GW; omega
    rw [gw_impl]
    simp only [Option.bind_some]
    refine EvP.pos (by simpa using hg2) (EvP.pos (by first | rfl | trivial) (EvP.neg hc (EvP.pos (by omega) ?_)))
    rw [show (a != a) = false by simp]
    exact j2_ok hl _ _ _ _ _ hg2 hn
theorem FnWindow : laws_FnWindow.Pure := by
  intro l0 l1 _ _ hb0 _ _ hb1
  have hl0 := bytes_of_wf hb0
  have hl1 := bytes_of_wf hb1
  refine EvP.rounds ?_
  simp only [laws_FnWindow.f]
  refine EvP.ite (fun _ => EvP.some rfl) (fun _ => ?_)
  refine EvP.bind (drawLost_ok hl0) ?_
  rintro ⟨a, b, c, d, s, t, n⟩ -
  dsimp only
  refine EvP.bind (lost_impl a b c d s t n) ?_
  rintro r rfl
  refine EvP.bind (lost_spec a b c d s t n) ?_
  rintro r rfl
  refine EvP.neg (by simp) ?_
  have e : ∀ r : W5, (!(r.1 == r.1) || (!(r.2.1 == r.2.1) || (!(r.2.2.1 == r.2.2.1) || (!(r.2.2.2.1 == r.2.2.2.1))))) = false := by simp
  rw [e]
  refine EvP.step (fun k => by rw [laws_FnWindow.j0]) ?_
  refine EvP.neg (by simp) (EvP.ite (fun h => ?_) (fun _ => j4_ok hl1))
  by_cases hc : GW a b c d ∧ Sz s ∧ Tk t ∧ Tk n ∧ s ≤ d
  · obtain ⟨hg, hs, ht, hn, hd⟩ := hc
    have hg' := hg
    unfold GW at hg'
    rw [tdiv_nn (by omega), w64 (n := a / 2) (by omega) (by omega)]
    have hj := j1_ok hl1 s t n a b c d hg hs ht hn hd
    unfold half at hj
    refine EvP.ite (fun h1 => ?_) (fun h1 => ?_)
    · rw [if_pos h1] at hj; exact hj
    · rw [if_neg h1] at hj; exact hj
  · unfold LostR at h
    rw [if_neg hc] at h
    simp at h
end Go.Proofs.Ytcngjidojibleaa.Pure
