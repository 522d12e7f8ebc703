/- FnFeistel: both packages pass alike, four passes are undone by four back, and unlike texts stay unlike. -/
import Derived.Test.YtknoemdkfhkkhaaQFeistSpecFnFeistel
import Derived.Test.YtknoemdkfhkkhaaQTurnedNFnFeistel
import Derived.Test.YtknoemdkfhkkhaaQLawNumFnFeistel
import Derived.Test.YtknoemdkfhkkhaaQInFnFeistel
import Derived.Test.YtknoemdkfhkkhaaSFnFeistel
set_option linter.unusedVariables false
set_option linter.unusedSimpArgs false
namespace Go.Proofs.Ytknoemdkfhkkhaa.Pure
open Go Go.Proofs Go.Proofs.YtknoemdkfhkkhaaPM Go.Proofs.Ytknoemdkfhkkhaa.Q Go.Proofs.Ytknoemdkfhkkhaa.CFnFeistel Go.Proofs.Ytknoemdkfhkkhaa.GFnFeistel

def FOk (k s : ByteArray) : Prop := k.size = 16 ∧ 5 ≤ s.size ∧ s.size ≤ 19
instance (k s : ByteArray) : Decidable (FOk k s) := by unfold FOk; infer_instance
def fourR (k s : ByteArray) : (ByteArray × (Bool × Unit)) × Unit := if FOk k s then ((fourP k s, (true, ())), ()) else (((⟨#[]⟩ : ByteArray), (false, ())), ())
theorem fourOk_ok (k s : ByteArray) : EvP (fun N => impl_fourOk N k s) (· = ((decide (FOk k s), ()), ())) := by
  refine EvP.of (fun N => impl_fourOk.eq N _ _) (EvP.to (EvP.of (fun N => impl_isKey.eq N _) (EvP.some rfl)) (EvP.ite (fun h => EvP.to (in_impl _ 5 19) (EvP.some ?_)) (fun h => EvP.some ?_)))
  · dsimp only
    rw [dec_eq (q := FOk k s) (fun h2 => by unfold FOk; omega) (fun h2 => by unfold FOk at h2; omega)]
  · rw [decide_eq_false (by unfold FOk; omega)]
theorem Four_impl (k s : ByteArray) : EvP (fun N => impl_FourPasses N k s) (· = fourR k s) := by
  refine EvP.of (fun N => impl_FourPasses.eq N _ _) (EvP.to (fourOk_ok k s) (EvP.nite (fun h => EvP.some ?_) (fun h => EvP.to (fourP_impl h.1 (by unfold FOk at h; omega)) (EvP.some ?_))))
  · rw [fourR, if_neg h]
  · rw [fourR, if_pos h]
theorem Back_impl {k s : ByteArray} (h : FOk k s) : EvP (fun N => impl_FourBack N k s) (· = ((fourB k s, (true, ())), ())) := by
  refine EvP.of (fun N => impl_FourBack.eq N _ _) (EvP.to (fourOk_ok k s) (EvP.nneg h (EvP.to (fourB_impl h.1 (by unfold FOk at h; omega)) (EvP.some rfl))))
theorem Four_spec (k s : ByteArray) : EvP (fun N => spec_FourPasses N k s) (· = fourR k s) := by
  refine EvP.of (fun N => spec_FourPasses.eq N _ _) (EvP.to (a := ((decide (FOk k s), ()), ())) (EvP.of (fun N => spec_l7Four.eq N _ _) (EvP.ite (fun h => EvP.to (in_spec _ 5 19) (EvP.some ?_)) (fun h => EvP.some ?_))) (EvP.nite (fun h => EvP.some ?_) (fun h => EvP.to (passes_spec h.1 (by unfold FOk at h; omega)) (EvP.some ?_))))
  · dsimp only
    rw [dec_eq (q := FOk k s) (fun h2 => by unfold FOk; omega) (fun h2 => by unfold FOk at h2; omega)]
  · rw [decide_eq_false (by unfold FOk; omega)]
  · rw [fourR, if_neg h]
  · rw [fourR, if_pos h]
theorem FnFeistel (a0 : List Int) (h0 : ∀ n ∈ a0, 0 ≤ n ∧ n ≤ 255) (s0 : a0.length ≤ 140737488351232) (a1 : List Int) (h1 : ∀ n ∈ a1, 0 ≤ n ∧ n ≤ 255) (s1 : a1.length ≤ 140737488351232) : ∃ N, laws_FnFeistel N a0 a1 = some ((true, ()), ()) := by
  refine EvP.fin (EvP.of (fun k => laws_FnFeistel.eq k _ _) (EvP.ite (fun _ => EvP.some rfl) (fun _ => EvP.andK (spec_DrawFourPasses_s h0) ?_)))
  rintro ⟨⟨k, s, ⟨⟩⟩, ⟨⟩⟩ -
  refine EvP.to (Four_impl k s) (EvP.to (Four_spec k s) ?_)
  refine EvP.to (a := ((false, ()), ())) (EvP.no (by simp) (EvP.some (by simp))) (EvP.no rfl ?_)
  by_cases h : FOk k s
  · rw [show fourR k s = _ from if_pos h]
    have h3 := h
    unfold FOk at h3
    have z1 := fourP_size k s
    have z2 := fourB_size k s
    refine EvP.no rfl (EvP.to (Back_impl (k := k) (s := fourP k s) (by unfold FOk; omega)) (EvP.to (Back_impl h) (EvP.to (Four_impl _ _) (EvP.andK (lawNumber_ok h1 s1) ?_))))
    rintro ⟨⟨x, ⟨⟩⟩, ⟨⟩⟩ ⟨hx1, hx2⟩
    dsimp only at hx1 hx2
    refine EvP.andK (turnedN_ok (by (try dsimp only); omega) (by (try dsimp only); omega) hx1 hx2) ?_
    rintro ⟨⟨t, ⟨⟩⟩, ⟨⟩⟩ ⟨ht1, p, hp1, hp2, hp3⟩
    dsimp only at ht1 hp1 hp2 hp3
    refine EvP.to (Four_impl _ _) ?_
    dsimp only
    rw [show fourR k (fourB k s) = _ from if_pos (by unfold FOk; omega), show fourR k t = _ from if_pos (by unfold FOk; omega), fourB_P (by omega), fourP_B (by omega)]
    refine EvP.yes rfl (EvP.yes rfl (EvP.yes rfl (EvP.yes rfl (EvP.pos rfl (EvP.pos rfl (EvP.npos (fun e => ?_) (EvP.some ?_)))))))
    · have e2 := congrArg (fun z => fourB k z) e
      rw [fourB_P (by omega), fourB_P (by omega)] at e2
      exact hp2 (by rw [e2])
    · rw [decide_eq_true (by omega)]
  · rw [show fourR k s = _ from if_neg h]
    exact EvP.yes rfl (EvP.some rfl)
end Go.Proofs.Ytknoemdkfhkkhaa.Pure
