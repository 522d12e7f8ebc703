/- The drawing cursor: a text spoilt at a place or two. -/
import Derived.Test.YtcggngmcaicdpabCurFnHex
set_option linter.unusedVariables false
set_option linter.unusedSimpArgs false
namespace Go.Proofs.Ytcggngmcaicdpab.CFnHex
open Go.RowKit Go.Proofs.Ytcggngmcaicdpab.B Go.Proofs.Ytcggngmcaicdpab.PFnHex Go.Proofs.YtcggngmcaicdpabW.PrintWords Go.Proofs.YtcggngmcaicdpabW.PrintLast Go.Proofs.YtcggngmcaicdpabW.PrintMore

theorem extract_le (s : ByteArray) (a b : Nat) : (s.extract a b).size ≤ s.size := by rw [ByteArray.size_extract]; omega
theorem spoilt_l0 {l : List Int} (hl : Bytes l) (x2 : ByteArray) (hx2 : 0 < x2.size) (d : Nat) : ∀ (x1 : ByteArray) (x7 a s : Int), x7 = d → x1.size + 2 * d ≤ 1000000 → 0 ≤ a → a + 6 * d ≤ 4611686018427000000 →
    EvP (fun k => spec_l1Cur_spoilt.l0 k x1 x2 x7 l a s) (fun r => r.1.size ≤ x1.size + d ∧ a ≤ r.2.1 ∧ r.2.1 ≤ a + 6 * d) := by
  induction d with
  | zero =>
    intro x1 x7 a s hx hz h0 h1
    refine EvP.step (fun k => by rw [spec_l1Cur_spoilt.l0]) ?_
    refine EvP.neg (by omega) (EvP.step (fun k => by rw [spec_l1Cur_spoilt.j1]) ?_)
    exact EvP.neg (by simp) (EvP.some ⟨by simp, by simp, by simp⟩)
  | succ d ih =>
    intro x1 x7 a s hx hz h0 h1
    refine EvP.step (fun k => by rw [spec_l1Cur_spoilt.l0]) ?_
    refine EvP.pos (by omega) (EvP.step (fun k => by rw [spec_l1Cur_spoilt.j1]) ?_)
    refine EvP.ite (fun hc => ?_) (fun _ => EvP.some ⟨by dsimp only; omega, by simp, by dsimp only; omega⟩)
    have hc : 0 < x1.size := by simpa using hc
    refine EvP.bind0 (pick_ok hl a s _ h0 (by omega)) ?_
    intro p hp
    have hp2 := hp.2.2.1 (by omega)
    refine EvP.bind0 (pick_ok hl _ _ _ (by omega) (by omega)) ?_
    intro q hq
    have hq2 := hq.2.2.1 (by omega)
    refine EvP.pos (by omega) (EvP.pos (by omega) ?_)
    simp only [Option.bind_some]
    refine EvP.bind0 (pick_ok hl _ _ 3 (by omega) (by omega)) ?_
    intro u hu
    have z1 := extract_le x1 0 p.1.toNat
    have z2 := extract_le x1 p.1.toNat x1.size
    have z3 := extract_le x1 (p.1 + 1).toNat x1.size
    have y1 : (x1.extract 0 p.1.toNat).size = p.1.toNat := by rw [ByteArray.size_extract]; omega
    have y2 : (x1.extract p.1.toNat x1.size).size = x1.size - p.1.toNat := by rw [ByteArray.size_extract]; omega
    have y3 : (x1.extract (p.1 + 1).toNat x1.size).size = x1.size - (p.1 + 1).toNat := by rw [ByteArray.size_extract]; omega
    have y4 : ∀ v : Int, (strOfNums [v]).size = 1 := fun v => by rw [strOfNums_size]; rfl
    refine EvP.ite (fun _ => ?_) (fun _ => EvP.ite (fun _ => ?_) (fun _ => ?_))
    · refine EvP.pos (by omega) (EvP.pos (by omega) (EvP.pos (by rw [y1, y4]; omega) (EvP.pos (by rw [ByteArray.size_append, y1, y2, y4]; omega) ?_)))
      refine (ih _ _ _ _ (by rw [w64 (by omega) (by omega)]; omega) (by rw [ByteArray.size_append, ByteArray.size_append, y1, y2, y4]; omega) (by omega) (by omega)).mono ?_
      intro r hr
      rw [ByteArray.size_append, ByteArray.size_append, y1, y2, y4] at hr
      exact ⟨by omega, by omega, by omega⟩
    · rw [w64 (n := p.1 + 1) (by omega) (by omega)]
      refine EvP.pos (by omega) (EvP.pos (by omega) (EvP.pos (by rw [y1, y4]; omega) (EvP.pos (by omega) (EvP.pos (by omega) (EvP.pos (by rw [ByteArray.size_append, y1, y3, y4]; omega) ?_)))))
      refine (ih _ _ _ _ (by rw [w64 (by omega) (by omega)]; omega) (by rw [ByteArray.size_append, ByteArray.size_append, y1, y3, y4]; omega) (by omega) (by omega)).mono ?_
      intro r hr
      rw [ByteArray.size_append, ByteArray.size_append, y1, y3, y4] at hr
      exact ⟨by omega, by omega, by omega⟩
    · rw [w64 (n := p.1 + 1) (by omega) (by omega)]
      refine EvP.pos (by omega) (EvP.pos (by omega) (EvP.pos (by omega) (EvP.pos (by omega) (EvP.pos (by rw [y1, y3]; omega) ?_))))
      refine (ih _ _ _ _ (by rw [w64 (by omega) (by omega)]; omega) (by rw [ByteArray.size_append, y1, y3]; omega) (by omega) (by omega)).mono ?_
      intro r hr
      rw [ByteArray.size_append, y1, y3] at hr
      exact ⟨by omega, by omega, by omega⟩
theorem spoilt_ok {l : List Int} (hl : Bytes l) (a s : Int) (x1 x2 : ByteArray) (hx2 : 0 < x2.size) (hz : x1.size ≤ 900000) (h0 : 0 ≤ a) (h1 : a ≤ 4611686018426000000) :
    EvP (fun k => spec_l1Cur_spoilt.f k l a s x1 x2) (fun r => r.1.size ≤ x1.size + 2 ∧ a ≤ r.2.1 ∧ r.2.1 ≤ a + 20) := by
  simp only [spec_l1Cur_spoilt.f]
  refine EvP.bind0 (pick_ok hl a s 3 h0 (by omega)) ?_
  intro p hp
  have hp2 := hp.2.2.1 (by omega)
  refine (spoilt_l0 hl x2 hx2 p.1.toNat x1 p.1 _ _ (by omega) (by omega) (by omega) (by omega)).mono ?_
  intro r hr
  exact ⟨by omega, by omega, by omega⟩
end Go.Proofs.Ytcggngmcaicdpab.CFnHex
