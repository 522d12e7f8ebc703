/- Rows of numbers and headers as the exact laws copy, compare and mark them. -/
import Derived.Test.YtkfpfcpmaejeoaaGreatQHead
import Derived.Test.YtkfpfcpmaejeoaaGreatQList
import Derived.Test.YtkfpfcpmaejeoaaGreatGFnExactRetryPacketx0
import Derived.Test.YtkfpfcpmaejeoaaGreatGFnExactRetryPacketx1
set_option linter.unusedVariables false
set_option linter.unusedSimpArgs false
namespace Go.Proofs.YtkfpfcpmaejeoaaGreat.CFnExactRetryPacket
open Go Go.Proofs Go.Proofs.YtkfpfcpmaejeoaaGreatPM Go.Proofs.YtkfpfcpmaejeoaaGreat.Q Go.Proofs.YtkfpfcpmaejeoaaGreat.GFnExactRetryPacket

theorem smallI_nat {n : Nat} (h : n < 68719476736) : smallI (n : Int) = true := by
  show Nat.blt n 68719476736 = true
  simpa [Nat.blt_eq] using h
theorem toIntS_ok (l : List Int) (hl : l.length ≤ 2000000) : EvP (fun N => laws_toIntS N l) (· = (((), ()), (l, ()))) := by
  refine EvP.of (fun N => laws_toIntS.eq N _) (EvP.chk (by simp [smallI_nat (show l.length < 68719476736 by omega)]) (EvP.to (a := (((), ()), (l, ()))) ?_ (EvP.some rfl)))
  refine EvP.count (f := fun N i (a : List Int) => laws_toIntS.l0 N l i a) (n := l.length) (inv := fun i a => a = l.take i ++ List.replicate (l.length - i) 0) ?_ ?_ 0 _ (by omega) (by simp)
  · rintro i a hi rfl next
    have hlen : (l.take i ++ List.replicate (l.length - i) (0 : Int)).length = l.length := by simp; omega
    refine EvP.step (fun N => laws_toIntS.l0.eq N _ _ _) (EvP.pos (by omega) (EvP.chk2 (by omega) (by omega) (EvP.chk2 (by omega) (by rw [hlen]; omega) ?_)))
    rw [show IntKind.i64.wrap ((i : Int) + 1) = ((i + 1 : Nat) : Int) by rw [i64w (by omega) (by omega)]; omega, Int.toNat_natCast]
    refine next _ ?_
    have e1 : l.length - i = (l.length - (i + 1)) + 1 := by omega
    have e2 : (l.take i).length = i := by simp; omega
    rw [List.set_append_right _ _ (by rw [e2]; exact Nat.le_refl _), e2, Nat.sub_self, e1, List.replicate_succ, List.set_cons_zero, List.take_succ_eq_append_getElem hi, List.append_assoc]
    rw [List.getD_eq_getElem?_getD, List.getElem?_eq_getElem hi]
    rfl
  · rintro a rfl
    refine EvP.step (fun N => laws_toIntS.l0.eq N _ _ _) (EvP.neg (by omega) (EvP.some ?_))
    simp
theorem eqIntS_ok (l : List Int) (hl : l.length ≤ 2000000) : EvP (fun N => laws_eqIntS N l l) (· = ((true, ()), ())) := by
  refine EvP.of (fun N => laws_eqIntS.eq N _ _) (EvP.nneg rfl (EvP.to (a := .inr ((), ())) ?_ (EvP.some rfl)))
  refine EvP.count (f := fun N i (_ : Unit) => laws_eqIntS.l0 N l l i) (n := l.length) (inv := fun _ _ => True) ?_ ?_ 0 () (by omega) trivial
  · intro i _ hi _ next
    refine EvP.step (fun N => laws_eqIntS.l0.eq N _ _ _) (EvP.pos (by omega) (EvP.chk2 (by omega) (by omega) (EvP.chk2 (by omega) (by omega) (EvP.nneg rfl ?_))))
    rw [show IntKind.i64.wrap ((i : Int) + 1) = ((i + 1 : Nat) : Int) by rw [i64w (by omega) (by omega)]; omega]
    exact next () trivial
  · intro _ _
    exact EvP.step (fun N => laws_eqIntS.l0.eq N _ _ _) (EvP.neg (by omega) (EvP.some rfl))
theorem markIntS_ok (l : List Int) (hl : l.length ≤ 2000000) : EvP (fun N => laws_markIntS N 1 l) (fun r => r.1.1 = 1 + (l.length : Int)) := by
  refine EvP.of (fun N => laws_markIntS.eq N _ _) (EvP.andK (Q := fun r => r.1.1 = 1 + (l.length : Int)) ?_ (fun r hr => EvP.some hr))
  refine EvP.count (f := fun N i (a : Int × List Int) => laws_markIntS.l0 N a.1 i a.2) (n := l.length) (inv := fun i a => a.1 = 1 + (i : Int) ∧ a.2.length = l.length) ?_ ?_ 0 (1, l) (by omega) ⟨rfl, rfl⟩
  · rintro i ⟨k, a⟩ hi ⟨h1, h2⟩ next
    dsimp only at h1 h2
    refine EvP.step (fun N => laws_markIntS.l0.eq N _ _ _) (EvP.pos (by (try dsimp only); omega) (EvP.chk2 (by (try dsimp only); omega) (by (try dsimp only); omega) ?_))
    rw [show IntKind.i64.wrap ((i : Int) + 1) = ((i + 1 : Nat) : Int) by rw [i64w (by omega) (by omega)]; omega, i64w (n := k + 1) (by omega) (by omega)]
    exact next (_, _) ⟨by dsimp only; omega, by simp [h2]⟩
  · rintro ⟨k, a⟩ ⟨h1, h2⟩
    dsimp only at h1 h2
    exact EvP.step (fun N => laws_markIntS.l0.eq N _ _ _) (EvP.neg (by (try dsimp only); omega) (EvP.some (by (try dsimp only); omega)))
theorem szIntS_ok (l : List Int) (hl : l.length ≤ 140737488351232) (x : Int) (h0 : 0 ≤ x) (h1 : x ≤ 1048576) : EvP (fun N => laws_szIntS N l x) (fun r => 0 ≤ r.1.1 → l.length ≤ 1048576) := by
  refine EvP.of (fun N => laws_szIntS.eq N _ _) ?_
  rw [i64w (by omega) (by omega)]
  exact EvP.ite (fun h => EvP.some (fun h2 => absurd h2 (by decide))) (fun h => EvP.some (fun _ => by omega))
end Go.Proofs.YtkfpfcpmaejeoaaGreat.CFnExactRetryPacket
