/- FnBlocks: whatever is drawn, products of blocks do not hang on order and brackets and go with xor, and both packages tell the same. -/
import Derived.Test.YtcggngmcaicdpabBlockImplFnBlocks
import Derived.Test.YtcggngmcaicdpabBlockSpecFnBlocks
import Derived.Test.YtcggngmcaicdpabCurBlockFnBlocks
set_option linter.unusedVariables false
set_option linter.unusedSimpArgs false
namespace Go.Proofs.Ytcggngmcaicdpab.Pure
open Go.RowKit Go.Proofs.Ytcggngmcaicdpab.B Go.Proofs.Ytcggngmcaicdpab.G128 Go.Proofs.Ytcggngmcaicdpab.CFnBlocks Go.Proofs.Ytcggngmcaicdpab.PFnBlocks Go.Proofs.YtcggngmcaicdpabW.PrintWords Go.Proofs.YtcggngmcaicdpabW.PrintLast Go.Proofs.YtcggngmcaicdpabW.PrintMore

theorem draw_ok {l : List Int} (hl : Bytes l) : EvP (fun k => spec_DrawMulBlock.f k l) (fun _ => True) := by
  simp only [spec_DrawMulBlock.f, spec_DrawAesBlock.f]
  refine EvP.bind (Q := fun _ => True) ?_ (fun _ _ => EvP.some trivial)
  refine EvP.bind (block_ok hl 0 0 (by omega) (by omega)) ?_
  intro p hp
  refine EvP.bind (block_ok hl _ _ (by omega) (by omega)) ?_
  intro q hq
  exact EvP.some trivial
theorem MulBlock_spec (a b : ByteArray) : EvP (fun k => spec_MulBlock.f k a b) (· = MB a b) := by
  simp only [spec_MulBlock.f]
  unfold MB
  have hz : EvP (fun k => spec_MulBlock.j0 k a b true) (· = ((⟨#[]⟩, false) : ByteArray × Bool)) := by
    refine EvP.step (fun k => by rw [spec_MulBlock.j0]) ?_
    exact EvP.pos rfl (EvP.some rfl)
  by_cases h1 : a.size = 16
  · refine EvP.pos (by omega) ?_
    by_cases h2 : b.size = 16
    · rw [if_pos ⟨h1, h2⟩, show ((b.size : Int) != 16) = false by rw [h2]; rfl]
      refine EvP.step (fun k => by rw [spec_MulBlock.j0]) ?_
      refine EvP.neg (by simp) ?_
      refine EvP.bind (of_spec h1) ?_
      rintro p rfl
      refine EvP.bind (of_spec h2) ?_
      rintro q rfl
      refine EvP.bind (mul_spec _ _) ?_
      rintro r rfl
      refine EvP.bind (told_spec _) ?_
      rintro t rfl
      rw [T_comm]
      exact EvP.some rfl
    · rw [if_neg (fun h => h2 h.2), show ((b.size : Int) != 16) = true by rw [bne_iff_ne]; omega]
      exact hz
  · rw [if_neg (fun h => h1 h.1)]
    exact EvP.neg (by omega) hz
theorem xored_ok {a b : ByteArray} (ha : a.size = 16) (hb : b.size = 16) : laws_xored.f a b = some (tOf (xo (vOf a) (vOf b))) := by
  unfold laws_xored.f laws_xored.x
  rw [if_pos (by omega), tOf_xo, tOf_vOf ha, tOf_vOf hb]
theorem MB_ok {a b : ByteArray} (ha : a.size = 16) (hb : b.size = 16) : MB a b = (tOf (T (vOf b) (vOf a)), true) := by unfold MB; rw [if_pos ⟨ha, hb⟩]
theorem FnBlocks : laws_FnBlocks.Pure := by
  intro l0 l1 _ _ hw0 _ _ hw1
  have hl0 := bytes_of_wf hw0
  have hl1 := bytes_of_wf hw1
  refine EvP.rounds ?_
  simp only [laws_FnBlocks.f]
  refine EvP.ite (fun _ => EvP.some rfl) (fun _ => ?_)
  refine EvP.bind (draw_ok hl0) ?_
  intro d _
  refine EvP.bind (draw_ok hl1) ?_
  intro e _
  generalize d.1 = a
  generalize d.2 = b
  generalize e.1 = c
  refine EvP.bind (MulBlock_impl a b) ?_
  rintro p rfl
  refine EvP.bind (MulBlock_spec a b) ?_
  rintro p rfl
  refine EvP.neg (by simp) ?_
  rw [show ((MB a b).1.toList != (MB a b).1.toList) = false by simp]
  refine EvP.step (fun k => by rw [laws_FnBlocks.j0]) ?_
  refine EvP.neg (by simp) ?_
  by_cases hab : a.size = 16 ∧ b.size = 16
  · obtain ⟨ha, hb⟩ := hab
    rw [MB_ok ha hb]
    refine EvP.pos rfl ?_
    by_cases hc : c.size = 16
    · rw [show ((c.size : Int) != 16) = false by rw [hc]; rfl]
      refine EvP.step (fun k => by rw [laws_FnBlocks.j1]) ?_
      refine EvP.neg (by simp) ?_
      refine EvP.bind (MulBlock_impl b a) ?_
      rintro q rfl
      refine EvP.bind (MulBlock_impl _ c) ?_
      rintro x rfl
      refine EvP.bind (MulBlock_impl b c) ?_
      rintro y rfl
      rw [MB_ok hb hc]
      refine EvP.bind (MulBlock_impl a _) ?_
      rintro z rfl
      rw [xored_ok hb hc]
      simp only [Option.bind_some]
      refine EvP.bind (MulBlock_impl a _) ?_
      rintro s rfl
      refine EvP.bind (MulBlock_impl a c) ?_
      rintro t rfl
      rw [MB_ok hb ha, MB_ok (tOf_size _) hc, MB_ok ha (tOf_size _), MB_ok ha (tOf_size _), MB_ok ha hc, vOf_tOf, vOf_tOf, vOf_tOf]
      refine EvP.pos (by first | rfl | trivial) (EvP.pos (by first | rfl | trivial) (EvP.pos (by first | rfl | trivial) (EvP.pos (by first | rfl | trivial) (EvP.pos (by first | rfl | trivial) (EvP.pos (by first | rfl | trivial) ?_)))))
      refine EvP.pos (by rw [T_comm]) (EvP.pos (by rw [T_assoc]) ?_)
      rw [xored_ok (tOf_size _) (tOf_size _), vOf_tOf, vOf_tOf, T_xo_left]
      simp only [Option.bind_some]
      exact EvP.some (by simp)
    · rw [show ((c.size : Int) != 16) = true by rw [bne_iff_ne]; omega]
      refine EvP.step (fun k => by rw [laws_FnBlocks.j1]) ?_
      exact EvP.pos rfl (EvP.some rfl)
  · have em : MB a b = (⟨#[]⟩, false) := by unfold MB; rw [if_neg hab]
    rw [em]
    refine EvP.neg (by simp) ?_
    refine EvP.step (fun k => by rw [laws_FnBlocks.j1]) ?_
    exact EvP.pos rfl (EvP.some rfl)
end Go.Proofs.Ytcggngmcaicdpab.Pure
