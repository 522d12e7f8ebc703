/- The drawing cursor: at most so many bytes. -/
import Derived.Test.YtcggngmcaicdpabCurFnPrefixed
set_option linter.unusedVariables false
set_option linter.unusedSimpArgs false
namespace Go.Proofs.Ytcggngmcaicdpab.CFnPrefixed
open Go.RowKit Go.Proofs.Ytcggngmcaicdpab.B Go.Proofs.Ytcggngmcaicdpab.PFnPrefixed Go.Proofs.YtcggngmcaicdpabW.PrintWords Go.Proofs.YtcggngmcaicdpabW.PrintLast Go.Proofs.YtcggngmcaicdpabW.PrintMore

theorem bytes_l0 {l : List Int} (hl : Bytes l) (d : Nat) : ∀ (b : List Int) (x a s : Int), x = d → b.length + d ≤ 1000000 → Bytes b → 0 ≤ a → a + d ≤ 4611686018427000000 →
    EvP (fun k => spec_l1Cur_bytes.l0 k b x l a s) (fun r => r.1.length = b.length + d ∧ Bytes r.1 ∧ a ≤ r.2.1 ∧ r.2.1 ≤ a + d) := by
  induction d with
  | zero =>
    intro b x a s hx hz hy h0 h1
    refine EvP.step (fun k => by rw [spec_l1Cur_bytes.l0]) ?_
    exact EvP.neg (by omega) (EvP.some ⟨rfl, hy, by simp, by simp⟩)
  | succ d ih =>
    intro b x a s hx hz hy h0 h1
    refine EvP.step (fun k => by rw [spec_l1Cur_bytes.l0]) ?_
    refine EvP.pos (by omega) ?_
    refine EvP.bind0 (next_ok hl a s h0 (by omega)) ?_
    intro p hp
    refine EvP.pos (by omega) ?_
    rw [w64 (n := x - 1) (by omega) (by omega), Int.emod_eq_of_lt (by omega) (by omega)]
    refine (ih _ _ _ _ (by omega) (by simp; omega) (Bytes.append hy (Bytes.cons ⟨by omega, by omega⟩ Bytes.nil)) (by omega) (by omega)).mono ?_
    intro r hr
    refine ⟨by rw [hr.1]; simp; omega, hr.2.1, by omega, by omega⟩
theorem bytes_ok {l : List Int} (hl : Bytes l) (a s : Int) (m : Int) (h : 0 ≤ m ∧ m ≤ 60000) (h0 : 0 ≤ a) (h1 : a ≤ 4611686018420000000) :
    EvP (fun k => spec_l1Cur_bytes.f k l a s m) (fun r => (r.1.length : Int) ≤ m ∧ Bytes r.1 ∧ a ≤ r.2.1 ∧ r.2.1 ≤ a + 2 + m) := by
  simp only [spec_l1Cur_bytes.f]
  rw [w64 (n := m + 1) (by omega) (by omega)]
  refine EvP.bind0 (pick_ok hl a s (m + 1) h0 (by omega)) ?_
  intro p hp
  have hp2 := hp.2.2.1 (by omega)
  refine (bytes_l0 hl p.1.toNat [] p.1 _ _ (by omega) (by simp; omega) Bytes.nil (by omega) (by omega)).mono ?_
  intro r hr
  simp only [List.length_nil, Nat.zero_add] at hr
  exact ⟨by omega, hr.2.1, by omega, by omega⟩
end Go.Proofs.Ytcggngmcaicdpab.CFnPrefixed
