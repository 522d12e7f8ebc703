/- Rows of capsules: told alike, marked, and held. -/
import Derived.Test.YtcggngmcaicdpabMarkFnExactReadCapsules
set_option linter.unusedVariables false
set_option linter.unusedSimpArgs false
namespace Go.Proofs.Ytcggngmcaicdpab.CFnExactReadCapsules
open Go.RowKit Go.Proofs.Ytcggngmcaicdpab.B Go.Proofs.Ytcggngmcaicdpab.PFnExactReadCapsules Go.Proofs.YtcggngmcaicdpabW.PrintWords Go.Proofs.YtcggngmcaicdpabW.PrintLast Go.Proofs.YtcggngmcaicdpabW.PrintMore

theorem eqCap_self (a : Int) (s : ByteArray) : laws_eqCapsule.f a s a s = some true := by simp [laws_eqCapsule.f]
theorem eqCaps_l0 (l : List S100) (hl : l.length ≤ 1000000) (j : Nat) : ∀ i : Nat, i + j = l.length → EvP (fun k => laws_eqCapsuleS.l0 k l l (i : Int)) (· = true) := by
  induction j with
  | zero =>
    intro i hi
    refine EvP.step (fun k => by rw [laws_eqCapsuleS.l0]) ?_
    exact EvP.neg (by omega) (EvP.some rfl)
  | succ j ih =>
    intro i hi
    refine EvP.step (fun k => by rw [laws_eqCapsuleS.l0]) ?_
    refine EvP.pos (by omega) (EvP.pos (by omega) (EvP.pos (by omega) ?_))
    simp only [eqCap_self, Option.bind_some, if_true]
    rw [w64 (n := (i : Int) + 1) (by omega) (by omega)]
    exact ih (i + 1) (by omega)
theorem eqCaps_self (l : List S100) (hl : l.length ≤ 1000000) : EvP (fun k => laws_eqCapsuleS.f k l l) (· = true) := by
  unfold laws_eqCapsuleS.f
  exact EvP.pos rfl (eqCaps_l0 l hl l.length 0 (by omega))
noncomputable def marksCap : Nat → Int → List S100
  | 0, _ => []
  | n + 1, k => ⟨k, markOf (k + 1)⟩ :: marksCap n (k + 2)
theorem marksCap_length : ∀ n k, (marksCap n k).length = n
  | 0, _ => rfl
  | n + 1, k => by rw [marksCap, List.length_cons, marksCap_length n]
theorem markCaps_l0 (j : Nat) : ∀ (l : List S100) (q : Int) (i : Nat), i + j = l.length → l.length ≤ 1000000 → 0 ≤ q → q + 2 * j ≤ 4000000 →
    EvP (fun k => laws_markCapsuleS.l0 k l q (i : Int)) (· = (q + 2 * j, l.take i ++ marksCap j q)) := by
  induction j with
  | zero =>
    intro l q i hi hl h0 h1
    refine EvP.step (fun k => by rw [laws_markCapsuleS.l0]) ?_
    refine EvP.neg (by omega) (EvP.some ?_)
    rw [List.take_of_length_le (by omega), marksCap, List.append_nil]
    simp
  | succ j ih =>
    intro l q i hi hl h0 h1
    refine EvP.step (fun k => by rw [laws_markCapsuleS.l0]) ?_
    refine EvP.pos (by omega) (EvP.pos (by omega) ?_)
    simp only [Option.bind_some]
    rw [w64 (n := q + 1) (by omega) (by omega), w64 (n := q + 1 + 1) (by omega) (by omega), w64 (n := (i : Int) + 1) (by omega) (by omega), Int.toNat_natCast]
    refine EvP.bind (mark_ok (q + 1) (by omega)) ?_
    rintro t rfl
    have e0 : (rd_T100 (l.set i ⟨q, (rd_T100 l (i : Int)).f1⟩) (i : Int)).f0 = q := by
      unfold rd_T100
      rw [Int.toNat_natCast, List.getD_eq_getElem?_getD, List.getElem?_set_self (by omega)]
      rfl
    rw [e0, List.set_set]
    have := ih (l.set i ⟨q, markOf (q + 1)⟩) (q + 1 + 1) (i + 1) (by rw [List.length_set]; omega) (by rw [List.length_set]; omega) (by omega) (by omega)
    refine this.mono ?_
    rintro r rfl
    have e1 : (l.set i (⟨q, markOf (q + 1)⟩ : S100)).take (i + 1) = l.take i ++ [⟨q, markOf (q + 1)⟩] := by
      rw [List.take_add_one, List.take_set_of_le (Nat.le_refl _), List.getElem?_set_self (by omega)]
      rfl
    rw [e1, marksCap, List.append_assoc]
    have e2 : q + 1 + 1 = q + 2 := by omega
    rw [e2]
    have e3 : q + 2 + 2 * (j : Int) = q + 2 * ((j + 1 : Nat) : Int) := by omega
    rw [e3]
    rfl
theorem markCaps_ok (l : List S100) (hl : l.length ≤ 1000000) : EvP (fun k => laws_markCapsuleS.f k l 1) (· = (1 + 2 * (l.length : Int), marksCap l.length 1)) := by
  simp only [laws_markCapsuleS.f]
  exact markCaps_l0 l.length l 1 0 (by omega) hl (by omega) (by omega)
theorem heldCaps_l0 (l : List S100) (hl : l.length ≤ 1000000) (j : Nat) : ∀ (q : Int) (i : Nat), i + j = l.length → 0 ≤ q → q + 2 * j ≤ 4000000 → l.drop i = marksCap j q →
    EvP (fun k => laws_heldCapsuleS.l0 k l q (i : Int)) (· = q + 2 * j) := by
  induction j with
  | zero =>
    intro q i hi h0 h1 hd
    refine EvP.step (fun k => by rw [laws_heldCapsuleS.l0]) ?_
    exact EvP.neg (by omega) (EvP.some (by simp))
  | succ j ih =>
    intro q i hi h0 h1 hd
    rw [marksCap] at hd
    obtain ⟨e1, e2, _⟩ := drop_getD (z := z100) hd
    have e3 : rd_T100 l (i : Int) = ⟨q, markOf (q + 1)⟩ := by unfold rd_T100; rw [Int.toNat_natCast]; exact e1
    refine EvP.step (fun k => by rw [laws_heldCapsuleS.l0]) ?_
    rw [e3, w64 (n := q + 1) (by omega) (by omega), w64 (n := q + 1 + 1) (by omega) (by omega), w64 (n := (i : Int) + 1) (by omega) (by omega)]
    refine EvP.pos (by omega) (EvP.pos (by omega) (EvP.pos rfl ?_))
    refine EvP.bind (mark_ok (q + 1) (by omega)) ?_
    rintro t rfl
    refine EvP.pos rfl ?_
    rw [show q + 1 + 1 = q + 2 by omega]
    refine (ih (q + 2) (i + 1) (by omega) (by omega) (by omega) e2).mono ?_
    rintro r rfl
    omega
theorem heldCaps_ok (n : Nat) (hn : n ≤ 1000000) : EvP (fun k => laws_heldCapsuleS.f k (marksCap n 1) 1) (· = 1 + 2 * (n : Int)) := by
  simp only [laws_heldCapsuleS.f]
  exact heldCaps_l0 _ (by rw [marksCap_length]; exact hn) n 1 0 (by rw [marksCap_length]; omega) (by omega) (by omega) rfl
end Go.Proofs.Ytcggngmcaicdpab.CFnExactReadCapsules
