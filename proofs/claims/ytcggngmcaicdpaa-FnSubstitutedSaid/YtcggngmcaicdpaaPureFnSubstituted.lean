/- FnSubstituted: for every byte that is drawn, what it becomes by the box is told alike by both packages, is undone by the box's back, is not the byte and not its opposite. -/
import Derived.Test.YtcggngmcaicdpaaQSubFnSubstituted
import Derived.Test.YtcggngmcaicdpaaQCurFnSubstituted
set_option linter.unusedVariables false
set_option linter.unusedSimpArgs false
namespace Go.Proofs.Ytcggngmcaicdpaa.Pure
open Go Go.Proofs Go.Proofs.YtcggngmcaicdpaaPM Go.Proofs.Ytcggngmcaicdpaa.Q Go.Proofs.Ytcggngmcaicdpaa.CFnSubstituted Go.Proofs.Ytcggngmcaicdpaa.GFnSubstituted

theorem draw_ok {l : List Int} (hl : Bytes l) : EvP (fun k => spec_DrawSubByte k l) (fun _ => True) := by
  refine EvP.of (fun k => spec_DrawSubByte.eq k _) (EvP.andK (EvP.of (fun k => spec_DrawInverseGf.eq k _) (EvP.andK (pick_ok hl 300 0 0 (by decide) (by decide)) fun r _ => EvP.some (P := fun _ => True) trivial)) fun r _ => EvP.some trivial)
theorem Sub_impl (b : Int) : EvP (fun k => impl_SubByte k b) (· = (((sb (by8 b) : Int), ()), ())) := by
  refine EvP.of (fun k => impl_SubByte.eq k _) ?_
  rw [by8_eq]
  refine EvP.to (subByte_impl (by8_lt b)) (EvP.some ?_)
  have := sb_lt (by8_lt b)
  dsimp only
  rw [i64w (by omega) (by omega)]
theorem Sub_spec (b : Int) : EvP (fun k => spec_SubByte k b) (· = (((sb (by8 b) : Int), ()), ())) := by
  refine EvP.of (fun k => spec_SubByte.eq k _) ?_
  rw [by8_eq]
  refine EvP.to (sub_spec (by8_lt b)) (EvP.some ?_)
  have := sb_lt (by8_lt b)
  dsimp only
  rw [i64w (by omega) (by omega)]
theorem Unsub_impl (b : Int) : EvP (fun k => impl_UnsubByte k b) (· = (((usb (by8 b) : Int), ()), ())) := by
  refine EvP.of (fun k => impl_UnsubByte.eq k _) ?_
  rw [by8_eq]
  refine EvP.andK box_ok ?_
  rintro r ⟨_, _, h⟩
  have h1 := by8_lt b
  have h2 := usb_lt (by8 b)
  refine EvP.chk2 (by omega) (by omega) (EvP.some ?_)
  rw [Int.toNat_natCast, h _ h1, i64w (by omega) (by omega)]
theorem Mul_one (b : Int) : EvP (fun k => impl_MulGf k b 1) (· = (((by8 b : Int), ()), ())) := by
  refine EvP.of (fun k => impl_MulGf.eq k _ _) ?_
  rw [by8_eq, by8_eq]
  refine EvP.to (mulGf_impl (by8_lt b) (by8_lt 1)) (EvP.some ?_)
  have := by8_lt b
  dsimp only
  rw [show by8 1 = 1 by decide, gf_pow0, i64w (by omega) (by omega)]
theorem FnSubstituted (a0 : List Int) (h0 : ∀ n ∈ a0, 0 ≤ n ∧ n ≤ 255) (s0 : a0.length ≤ 140737488351232) : ∃ N, laws_FnSubstituted N a0 = some ((true, ()), ()) := by
  refine EvP.fin (EvP.of (fun k => laws_FnSubstituted.eq k _) ?_)
  refine EvP.ite (fun _ => EvP.some rfl) (fun _ => ?_)
  refine EvP.andK (draw_ok h0) ?_
  rintro ⟨⟨b, ⟨⟩⟩, ⟨⟩⟩ -
  have hb := by8_lt b
  have hs := sb_lt hb
  refine EvP.to (Sub_impl b) (EvP.to (Sub_spec b) (EvP.pos rfl (EvP.to (Unsub_impl _) (EvP.to (Mul_one b) (EvP.pos ?_ ?_)))))
  · dsimp only
    rw [by8_nat hs, usb_sb hb]
  · refine EvP.to (Unsub_impl b) (EvP.to (Sub_impl _) (EvP.to (Mul_one b) (EvP.pos ?_ (EvP.to (Mul_one b) (EvP.npos ?_ (EvP.to (Mul_one b) (EvP.some ?_)))))))
    · dsimp only
      rw [by8_nat (usb_lt _), sb_usb hb]
    · dsimp only
      have := sb_ne hb
      omega
    · dsimp only
      have := sb_op hb
      rw [show (255 : Int) = ((255 : Nat) : Int) by rfl, xor_i64 hs (by decide)]
      have e : ¬ (((sb (by8 b) ^^^ 255 : Nat) : Int) = ((by8 b : Nat) : Int)) := by omega
      simp [e]
end Go.Proofs.Ytcggngmcaicdpaa.Pure
