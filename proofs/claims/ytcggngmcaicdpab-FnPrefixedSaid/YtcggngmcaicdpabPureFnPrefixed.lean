/- FnPrefixed: whatever is drawn, a number comes back from its bytes with what stands above it, and both packages tell the same. -/
import Derived.Test.YtcggngmcaicdpabTakePrefixFnPrefixed
import Derived.Test.YtcggngmcaicdpabCurAmongFnPrefixed
import Derived.Test.YtcggngmcaicdpabCurOfFnPrefixed
import Derived.Test.YtcggngmcaicdpabCurBytesFnPrefixed
set_option linter.unusedVariables false
set_option linter.unusedSimpArgs false
namespace Go.Proofs.Ytcggngmcaicdpab.Pure
open Go.RowKit Go.Proofs.Ytcggngmcaicdpab.B Go.Proofs.Ytcggngmcaicdpab.CFnPrefixed Go.Proofs.Ytcggngmcaicdpab.PFnPrefixed Go.Proofs.YtcggngmcaicdpabW.PrintWords Go.Proofs.YtcggngmcaicdpabW.PrintLast Go.Proofs.YtcggngmcaicdpabW.PrintMore

theorem draw_j0 {l : List Int} (hl : Bytes l) (x6 x7 a s : Int) (h : 3 ≤ x6 ∧ x6 ≤ 8) (h0 : 0 ≤ a) (h1 : a ≤ 1000) : EvP (fun k => spec_DrawPrefixBytes.j0 k x6 x7 l a s) (fun _ => True) := by
  refine EvP.step (fun k => by rw [spec_DrawPrefixBytes.j0]) ?_
  refine EvP.bind0 (pick_ok hl a s 256 h0 (by omega)) ?_
  intro p hp
  rw [u64w_id (n := x6) (by omega) (by omega)]
  refine EvP.pos (by omega) ?_
  refine EvP.bind0 (one_ok hl _ _ 16 (by omega) (by omega)) ?_
  intro q hq
  refine EvP.ite (fun _ => ?_) (fun _ => EvP.some trivial)
  refine EvP.bind0 (pick_ok hl _ _ 260 (by omega) (by omega)) ?_
  intro r hr
  exact EvP.some trivial
theorem draw_ok {l : List Int} (hl : Bytes l) : EvP (fun k => spec_DrawPrefixBytes.f k l) (fun _ => True) := by
  simp only [spec_DrawPrefixBytes.f]
  refine EvP.bind0 (pick_ok hl 0 0 6 (by omega) (by omega)) ?_
  intro p hp
  have hp2 := hp.2.2.1 (by omega)
  refine EvP.bind0 (pick_ok hl _ _ 300 (by omega) (by omega)) ?_
  intro q hq
  refine EvP.bind0 (one_ok hl _ _ 6 (by omega) (by omega)) ?_
  intro r hr
  rw [w64 (n := 3 + p.1) (by omega) (by omega)]
  refine EvP.ite (fun _ => ?_) (fun _ => draw_j0 hl _ _ _ _ (by omega) (by omega) (by omega))
  refine EvP.bind0 (among_ok hl _ _ (by omega) (by omega) _ (by simp)) ?_
  intro z hz
  exact draw_j0 hl _ _ _ _ (by omega) (by omega) (by omega)
theorem PreR_size (n b first : Int) : (PreR n b first).1.size ≤ 6 := by
  unfold PreR
  split
  · rw [strOfNums_size]; exact pfx_length n b first
  · simp [size_nil]
theorem drawTake_ok {l : List Int} (hl : Bytes l) : EvP (fun k => spec_DrawTakePrefix.f k l) (fun _ => True) := by
  simp only [spec_DrawTakePrefix.f]
  refine EvP.bind (draw_ok hl) ?_
  intro d _
  refine EvP.bind (PrefixBytes_spec _ _ _) ?_
  rintro e rfl
  have hs := PreR_size d.1 d.2.1 d.2.2
  refine EvP.bind0 (pick_ok hl 0 0 4 (by omega) (by omega)) ?_
  intro p hp
  refine EvP.ite (fun _ => ?_) (fun _ => EvP.ite (fun _ => ?_) (fun _ => EvP.some trivial))
  · refine EvP.bind (bytes_ok hl _ _ 4 (by omega) (by omega) (by omega)) ?_
    intro q hq
    exact EvP.pos (by rw [strOfNums_size]; omega) (EvP.some trivial)
  · refine EvP.bind0 (of_ok hl _ _ (by omega) (by omega) _ (by simp)) ?_
    intro z hz
    exact EvP.some trivial
theorem tail_ok {l : List Int} (hl : Bytes l) : EvP (fun k => (spec_DrawTakePrefix.f k l).bind fun bt217 => ((impl_TakePrefix.f k bt217.1 bt217.2).bind fun bt219 => ((spec_TakePrefix.f k bt217.1 bt217.2).bind fun bt222 => (if bt219.1 = bt222.1 then (if bt219.2.1 = bt222.2.1 then (some (bt219.2.2 == bt222.2.2)) else (some false)) else (some false))))) (· = true) := by
  refine EvP.bind (drawTake_ok hl) ?_
  intro d _
  refine EvP.bind (TakePrefix_impl _ _) ?_
  rintro e rfl
  refine EvP.bind (TakePrefix_spec _ _) ?_
  rintro e rfl
  exact EvP.pos rfl (EvP.pos rfl (EvP.some (by simp)))
theorem FnPrefixed : laws_FnPrefixed.Pure := by
  intro l0 l1 _ _ hb0 _ _ hb1
  have hl0 := bytes_of_wf hb0
  have hl1 := bytes_of_wf hb1
  refine EvP.rounds ?_
  simp only [laws_FnPrefixed.f]
  refine EvP.ite (fun _ => EvP.some rfl) (fun _ => ?_)
  refine EvP.bind (draw_ok hl0) ?_
  rintro ⟨n, b, first⟩ -
  dsimp only
  refine EvP.bind (PrefixBytes_impl n b first) ?_
  rintro p rfl
  refine EvP.bind (PrefixBytes_spec n b first) ?_
  rintro p rfl
  have hsz := PreR_size n b first
  refine EvP.neg (by simp) ?_
  rw [show ((PreR n b first).1.toList != (PreR n b first).1.toList) = false by simp]
  refine EvP.step (fun k => by rw [laws_FnPrefixed.j0]) ?_
  refine EvP.neg (by simp) (EvP.ite (fun h => ?_) (fun _ => tail_ok hl1))
  refine EvP.pos (by omega) ?_
  refine EvP.bind (TakePrefix_impl _ _) ?_
  rintro t rfl
  unfold PreR at h ⊢
  by_cases hc : PreOk n b first
  · rw [if_pos hc]
    dsimp only
    rw [TakeR_back hc _ [109, 111, 114, 101] (by rw [B_append, B_strOfNums (pfx_bytes hc)]; rfl)]
    refine EvP.pos rfl (EvP.pos rfl ?_)
    dsimp only
    rw [strOfNums_size, show (((pfx n b first).length : Int) != ((pfx n b first).length : Int)) = false by simp]
    refine EvP.step (fun k => by rw [laws_FnPrefixed.j1]) ?_
    exact EvP.neg (by simp) (tail_ok hl1)
  · rw [if_neg hc] at h; simp at h
end Go.Proofs.Ytcggngmcaicdpab.Pure
