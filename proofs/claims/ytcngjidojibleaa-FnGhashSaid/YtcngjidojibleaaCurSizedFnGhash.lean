/- The drawing cursor: so many bytes. -/
import Derived.Test.YtcngjidojibleaaCurFnGhash
set_option linter.unusedVariables false
set_option linter.unusedSimpArgs false
namespace Go.Proofs.Ytcngjidojibleaa.CFnGhash
open Go.RowKit Go.Proofs.Ytcngjidojibleaa.B Go.Proofs.Ytcngjidojibleaa.PFnGhash Go.Proofs.YtcngjidojibleaaW.PrintWords Go.Proofs.YtcngjidojibleaaW.PrintLast Go.Proofs.YtcngjidojibleaaW.PrintMore

theorem bytes_set {l : List Int} (h : Bytes l) (i : Nat) {v : Int} (hv : 0 ≤ v ∧ v ≤ 255) : Bytes (l.set i v) := by
  intro x hx
  rcases List.mem_or_eq_of_mem_set hx with hx | rfl
  · exact h x hx
  · exact hv
theorem sized_l0 {l : List Int} (hl : Bytes l) (n : Nat) (hn : n ≤ 1000000) (d : Nat) : ∀ (i : Nat) (b : List Int) (a s : Int), i + d = n → b.length = n → Bytes b → 0 ≤ a → a + 2 * d ≤ 4611686018427000000 →
    EvP (fun k => spec_l1Cur_sizedBytes.l0 k b (n : Int) (i : Int) l a s) (fun r => r.1.length = n ∧ Bytes r.1 ∧ a ≤ r.2.1 ∧ r.2.1 ≤ a + 2 * d) := by
  induction d with
  | zero =>
    intro i b a s hi hb hy h0 h1
    refine EvP.step (fun k => by rw [spec_l1Cur_sizedBytes.l0]) ?_
    exact EvP.neg (by omega) (EvP.some ⟨hb, hy, by simp, by simp⟩)
  | succ d ih =>
    intro i b a s hi hb hy h0 h1
    refine EvP.step (fun k => by rw [spec_l1Cur_sizedBytes.l0]) ?_
    refine EvP.pos (by omega) ?_
    refine EvP.bind0 (pick_ok hl a s 256 h0 (by omega)) ?_
    intro p hp
    have hp2 := hp.2.2.1 (by omega)
    refine EvP.pos (by omega) (EvP.pos (by omega) ?_)
    rw [w64 (n := (i : Int) + 1) (by omega) (by omega), Int.emod_eq_of_lt (by omega) (by omega)]
    refine (ih (i + 1) _ _ _ (by omega) (by simp [hb]) (bytes_set hy _ ⟨by omega, by omega⟩) (by omega) (by omega)).mono ?_
    intro r hr
    exact ⟨hr.1, hr.2.1, by omega, by omega⟩
theorem bytes_zeros (n : Nat) : Bytes (List.replicate n 0) := by
  intro x hx
  have := List.eq_of_mem_replicate hx
  omega
theorem sizedBytes_ok {l : List Int} (hl : Bytes l) (a s : Int) (m : Int) (h : 0 ≤ m ∧ m ≤ 1000000) (h0 : 0 ≤ a) (h1 : a ≤ 4611686018420000000) :
    EvP (fun k => spec_l1Cur_sizedBytes.f k l a s m) (fun r => r.1.length = m.toNat ∧ Bytes r.1 ∧ a ≤ r.2.1 ∧ r.2.1 ≤ a + 2 * m) := by
  simp only [spec_l1Cur_sizedBytes.f]
  refine EvP.pos h.1 (EvP.pos (by omega) ?_)
  simp only [Option.bind_some]
  have e : ((List.replicate m.toNat (0 : Int)).length : Int) = ((m.toNat : Nat) : Int) := by simp
  rw [e]
  refine (sized_l0 hl m.toNat (by omega) m.toNat 0 _ a s (by omega) (by simp) (bytes_zeros _) h0 (by omega)).mono ?_
  intro r hr
  exact ⟨hr.1, hr.2.1, hr.2.2.1, by omega⟩
end Go.Proofs.Ytcngjidojibleaa.CFnGhash
