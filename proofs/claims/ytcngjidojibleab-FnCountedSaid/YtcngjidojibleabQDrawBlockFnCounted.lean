/- Blocks that are drawn. -/
import Derived.Test.YtcngjidojibleabQDrawFnCounted
set_option linter.unusedVariables false
set_option linter.unusedSimpArgs false
namespace Go.Proofs.Ytcngjidojibleab.CFnCounted
open Go Go.Proofs Go.Proofs.YtcngjidojibleabPM Go.Proofs.Ytcngjidojibleab.Q Go.Proofs.Ytcngjidojibleab.GFnCounted

theorem block_ok {l : List Int} (hl : Bytes l) (a s : Int) (h0 : 0 ≤ a) (h1 : a ≤ 1000000000) :
    EvP (fun N => spec_l1Cur_block N l a s) (fun r => CuP l a 100 r.2) := by
  refine EvP.of (fun N => spec_l1Cur_block.eq N l a s) (EvP.andK (one_ok hl 30 a s h0 (by omega)) ?_)
  rintro ⟨⟨x, ⟨⟩⟩, ⟨l1, a1, s1, ⟨⟩⟩, ⟨⟩⟩ ⟨hl1, h2, h3⟩
  obtain rfl : l1 = l := hl1
  dsimp only at h2 h3 ⊢
  refine EvP.sel (fun _ => ?_) (fun _ => ?_)
  · refine EvP.andK (among_ok hl [0, 15, 17] (by decide) a1 s1 (by omega) (by omega)) ?_
    rintro ⟨⟨n, ⟨⟩⟩, ⟨l2, a2, s2, ⟨⟩⟩, ⟨⟩⟩ ⟨hn, hl2, h4, h5⟩
    obtain rfl : l2 = l1 := hl2
    dsimp only at hn h4 h5 ⊢
    have hn2 : 0 ≤ n ∧ n ≤ 17 := by simp at hn; omega
    refine EvP.andK (sized_ok hl n a2 s2 hn2.1 (by omega) (by omega) (by omega)) ?_
    rintro ⟨⟨⟨⟩, ⟨⟩⟩, ⟨l3, a3, s3, ⟨⟩⟩, ⟨p, ⟨⟩⟩⟩ ⟨⟨hl3, h6, h7⟩, _⟩
    dsimp only at h6 h7
    exact EvP.some ⟨hl3, by dsimp only; omega, by dsimp only; omega⟩
  · refine EvP.andK (one_ok hl 8 a1 s1 (by omega) (by omega)) ?_
    rintro ⟨⟨x, ⟨⟩⟩, ⟨l2, a2, s2, ⟨⟩⟩, ⟨⟩⟩ ⟨hl2, h4, h5⟩
    obtain rfl : l2 = l1 := hl2
    dsimp only at h4 h5 ⊢
    refine EvP.sel (fun _ => EvP.some ⟨rfl, by dsimp only; omega, by dsimp only; omega⟩) (fun _ => ?_)
    refine EvP.andK (sized_ok hl 16 a2 s2 (by decide) (by decide) (by omega) (by omega)) ?_
    rintro ⟨⟨⟨⟩, ⟨⟩⟩, ⟨l3, a3, s3, ⟨⟩⟩, ⟨p, ⟨⟩⟩⟩ ⟨⟨hl3, h6, h7⟩, _⟩
    dsimp only at h6 h7
    exact EvP.some ⟨hl3, by dsimp only; omega, by dsimp only; omega⟩
end Go.Proofs.Ytcngjidojibleab.CFnCounted
