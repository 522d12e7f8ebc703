/- FnDerived: both packages derive alike, fewer bytes are the beginning of more, and both first secrets have 32 bytes. -/
import Derived.Test.YtknoemdkfhkkhaaQSecretsFnDerived
import Derived.Test.YtknoemdkfhkkhaaQLawNumFnDerived
import Derived.Test.YtknoemdkfhkkhaaQInFnDerived
import Derived.Test.YtknoemdkfhkkhaaSFnDerived
set_option linter.unusedVariables false
set_option linter.unusedSimpArgs false
namespace Go.Proofs.Ytknoemdkfhkkhaa.Pure
open Go Go.Proofs Go.Proofs.YtknoemdkfhkkhaaPM Go.Proofs.Ytknoemdkfhkkhaa.Q Go.Proofs.Ytknoemdkfhkkhaa.CFnDerived Go.Proofs.Ytknoemdkfhkkhaa.GFnDerived

theorem Hkdf_spec (k info : ByteArray) (n : Int) : EvP (fun N => spec_HkdfExpand N k info n) (· = hkdfR k info n) := by
  refine EvP.of (fun N => spec_HkdfExpand.eq N _ _ _) (EvP.to (a := ((decide (hkdfBad k info n), ()), ())) ?_ (EvP.ite (fun h => EvP.some ?_) (fun h => ?_)))
  · refine EvP.ite (fun h => EvP.some ?_) (fun h => EvP.ite (fun h2 => EvP.some ?_) (fun h2 => EvP.to (in_spec n 0 255) (EvP.some ?_)))
    · rw [decide_eq_true (show hkdfBad k info n from Or.inl h)]
    · rw [decide_eq_true (show hkdfBad k info n from Or.inr (Or.inl h2))]
    · by_cases h3 : 0 ≤ n ∧ n ≤ 255
      · rw [decide_eq_true h3, decide_eq_false (show ¬hkdfBad k info n by unfold hkdfBad; omega)]; rfl
      · rw [decide_eq_false h3, decide_eq_true (show hkdfBad k info n from Or.inr (Or.inr h3))]; rfl
  · rw [hkdfR, if_pos h]
  · have hg : ¬(500 < (k.size : Int)) ∧ ¬(500 < (info.size : Int)) ∧ (0 ≤ n ∧ n ≤ 255) := by
      unfold hkdfBad at h
      omega
    obtain ⟨m, rfl⟩ : ∃ m : Nat, n = (m : Int) := ⟨n.toNat, by omega⟩
    refine EvP.to new_spec (EvP.to (expand_spec (by omega) (by omega) (by omega)) (EvP.some ?_))
    rw [hkdfR, if_neg h, Int.toNat_natCast]
theorem FnDerived (a0 : List Int) (h0 : ∀ n ∈ a0, 0 ≤ n ∧ n ≤ 255) (s0 : a0.length ≤ 140737488351232) (a1 : List Int) (h1 : ∀ n ∈ a1, 0 ≤ n ∧ n ≤ 255) (s1 : a1.length ≤ 140737488351232) : ∃ N, laws_FnDerived N a0 a1 = some ((true, ()), ()) := by
  refine EvP.fin (EvP.of (fun k => laws_FnDerived.eq k _ _) (EvP.ite (fun _ => EvP.some rfl) (fun _ => EvP.andK (spec_DrawHkdfExpand_s h0) ?_)))
  rintro ⟨⟨k, info, n, ⟨⟩⟩, ⟨⟩⟩ -
  refine EvP.to (Hkdf_impl k info n) (EvP.to (Hkdf_spec k info n) ?_)
  refine EvP.to (a := ((false, ()), ())) (EvP.no (by simp) (EvP.some (by simp))) (EvP.no rfl ?_)
  refine EvP.to (a := .inr ((), ())) ?_ (EvP.inr ?_)
  · by_cases hb : hkdfBad k info n
    · rw [show hkdfR k info n = _ from if_pos hb]
      exact EvP.no rfl (EvP.some rfl)
    · rw [show hkdfR k info n = _ from if_neg hb]
      have hg : ¬(500 < (k.size : Int)) ∧ ¬(500 < (info.size : Int)) ∧ (0 ≤ n ∧ n ≤ 255) := by
        unfold hkdfBad at hb
        omega
      obtain ⟨m, rfl⟩ : ∃ m : Nat, n = (m : Int) := ⟨n.toNat, by omega⟩
      refine EvP.yes rfl (EvP.andK (lawNumber_ok h1 s1) ?_)
      rintro ⟨⟨x, ⟨⟩⟩, ⟨⟩⟩ ⟨hx1, hx2⟩
      dsimp only at hx1 hx2
      dsimp only
      rw [i64w (n := (m : Int) + 1) (by omega) (by omega), Int.tmod_eq_emod_of_nonneg hx1]
      obtain ⟨j, hj⟩ : ∃ j : Nat, x % ((m : Int) + 1) = (j : Int) := ⟨(x % ((m : Int) + 1)).toNat, by have := Int.emod_nonneg x (show (m : Int) + 1 ≠ 0 by omega); omega⟩
      have hjm : j ≤ m := by have := Int.emod_lt_of_pos x (show 0 < (m : Int) + 1 by omega); omega
      rw [hj]
      refine EvP.nz (by omega) (EvP.to (Hkdf_impl k info (j : Int)) ?_)
      rw [show hkdfR k info (j : Int) = _ from if_neg (by unfold hkdfBad; omega), Int.toNat_natCast, Int.toNat_natCast]
      have hz := expF_size k info m
      refine EvP.to (a := ((false, ()), ())) (EvP.no rfl (EvP.nneg (by (try dsimp only); omega) (EvP.chk2 (by omega) (by (try dsimp only); omega) (EvP.some ?_)))) (EvP.no rfl (EvP.some rfl))
      dsimp only
      rw [← expF_front k info hjm, decide_eq_true rfl]
      rfl
  · refine EvP.andK (spec_DrawInitialSecrets_s h1) ?_
    rintro ⟨⟨id, ⟨⟩⟩, ⟨⟩⟩ -
    refine EvP.to (Secrets_impl id) (EvP.to (Secrets_spec id) ?_)
    refine EvP.to (a := ((false, ()), ())) (EvP.no (by simp) (EvP.no (by simp) (EvP.some (by simp)))) (EvP.no rfl ?_)
    by_cases h : 20 < (id.size : Int)
    · rw [show secretsR id = _ from if_pos h]
      exact EvP.yes rfl (EvP.some rfl)
    · rw [show secretsR id = _ from if_neg h]
      have e : ∀ l, (labF (hmacF salt id) l 32).size = 32 := fun l => expF_size _ _ _
      refine EvP.no rfl (EvP.pos (by (try dsimp only); rw [e]; rfl) (EvP.some ?_))
      dsimp only
      rw [e]
      rfl
end Go.Proofs.Ytknoemdkfhkkhaa.Pure
