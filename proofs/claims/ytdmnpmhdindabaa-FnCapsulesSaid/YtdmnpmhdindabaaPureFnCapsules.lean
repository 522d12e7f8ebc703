/- FnCapsules: capsules come back from their bytes, no more are known than there are, and pieces are read as all together. -/
import Derived.Test.YtdmnpmhdindabaaQDrawFeedFnCapsules
import Derived.Test.YtdmnpmhdindabaaQFeedFnCapsules
import Derived.Test.YtdmnpmhdindabaaQKnownFnCapsules
set_option linter.unusedVariables false
set_option linter.unusedSimpArgs false
namespace Go.Proofs.Ytdmnpmhdindabaa.Pure
open Go Go.Proofs Go.Proofs.YtdmnpmhdindabaaPM Go.Proofs.Ytdmnpmhdindabaa.Q Go.Proofs.Ytdmnpmhdindabaa.CFnCapsules Go.Proofs.Ytdmnpmhdindabaa.GFnCapsules

theorem same_caps (l : List (Int × ByteArray)) (hl : l.length ≤ 1000000) (o : List Int) : EvP (fun N => laws_FnCapsules.l0 N o (l.length : Int) 0 l l) (· = .inr ((((), ()), (l, (l, ()))))) := by
  refine EvP.count (f := fun N i (_ : Unit) => laws_FnCapsules.l0 N o (l.length : Int) i l l) (n := l.length) (inv := fun _ _ => True) ?_ ?_ 0 () (by omega) trivial
  · intro i _ hi _ next
    refine EvP.step (fun N => laws_FnCapsules.l0.eq N _ _ _ _ _) (EvP.pos (by omega) (EvP.chk2 (by omega) (by omega) (EvP.chk2 (by omega) (by omega) (EvP.no (by simp) ?_))))
    rw [show IntKind.i64.wrap ((i : Int) + 1) = ((i + 1 : Nat) : Int) by rw [i64w (by omega) (by omega)]; omega]
    exact next () trivial
  · intro _ _
    exact EvP.step (fun N => laws_FnCapsules.l0.eq N _ _ _ _ _) (EvP.neg (by omega) (EvP.some rfl))
theorem all_ok (G : List ByteArray) (hl : (G.length : Int) + ((J G).size : Int) ≤ 1048576) (t : Int) (p q r : List (Int × ByteArray)) : EvP (fun N => laws_FnCapsules.l1 N t (G.length : Int) (⟨#[]⟩ : ByteArray) 0 p G q r) (· = (((), (J G, ())), (p, (G, (q, (r, ())))))) := by
  refine EvP.count (f := fun N i (a : ByteArray) => laws_FnCapsules.l1 N t (G.length : Int) a i p G q r) (n := G.length) (inv := fun i a => a = J (G.take i)) ?_ ?_ 0 _ (by omega) rfl
  · rintro i a hi rfl next
    refine EvP.step (fun N => laws_FnCapsules.l1.eq N _ _ _ _ _ _ _ _) (EvP.pos (by omega) (EvP.chk2 (by omega) (by omega) ?_))
    have hs : (J (G.take (i + 1))).size ≤ (J G).size := by
      have e : J G = J (G.take (i + 1)) ++ J (G.drop (i + 1)) := by rw [← J_app, List.take_append_drop]
      rw [e, ByteArray.size_append]
      omega
    rw [J_take hi, ByteArray.size_append] at hs
    rw [Int.toNat_natCast, getD_at hi, show IntKind.i64.wrap ((i : Int) + 1) = ((i + 1 : Nat) : Int) by rw [i64w (by omega) (by omega)]; omega]
    refine EvP.chk1 (by omega) ?_
    rw [← J_take hi]
    exact next _ rfl
  · rintro a rfl
    refine EvP.step (fun N => laws_FnCapsules.l1.eq N _ _ _ _ _ _ _ _) (EvP.neg (by omega) (EvP.some ?_))
    rw [List.take_length]
theorem FnCapsules (a0 : List Int) (h0 : ∀ n ∈ a0, 0 ≤ n ∧ n ≤ 255) (s0 : a0.length ≤ 140737488351232) (a1 : List Int) (h1 : ∀ n ∈ a1, 0 ≤ n ∧ n ≤ 255) (s1 : a1.length ≤ 140737488351232) : ∃ N, laws_FnCapsules N a0 a1 = some ((true, ()), ()) := by
  refine EvP.fin (EvP.of (fun k => laws_FnCapsules.eq k _ _) (EvP.ite (fun _ => EvP.some rfl) (fun _ => EvP.andK (spec_DrawCapsulesBytes_s h0) ?_)))
  rintro ⟨⟨⟨⟩, ⟨⟩⟩, l, ⟨⟩⟩ ⟨l1, l2, -⟩
  dsimp only at l1 l2
  refine EvP.to (CapsulesBytes_impl l (by omega)) (EvP.to (CapsulesBytes_spec l (by omega)) ?_)
  refine EvP.to (a := (((), (false, ())), (l, ()))) (EvP.no (by simp) (EvP.some (by simp))) (EvP.no rfl ?_)
  refine EvP.to (a := .inr (((), (l, ())))) ?_ (EvP.inr ?_)
  · by_cases hc : CapsOk l
    · rw [show cwOf l = _ from if_pos hc]
      by_cases hz : ((capsB l).size : Int) ≤ 1500
      · refine EvP.to (a := (((), (true, ())), (l, ()))) (EvP.yes rfl (EvP.some (by (try dsimp only); rw [decide_eq_true hz]))) (EvP.yes rfl ?_)
        have hr : Caps (capsB l) = (l, ((capsB l).size : Int), true) := by
          unfold Caps
          rw [if_neg (by omega), cap_read l [] 1501 0 (by omega) (fun c hcm => ?_) (by have := hc.1; rw [List.length_nil]; omega)]
          · rw [List.nil_append, Int.zero_add]
          · have := hc.2 c hcm
            exact ⟨this.1.1, by have := this.1.2; omega, by have := this.2; omega⟩
        refine EvP.to (ReadCapsules_impl _) ?_
        dsimp only
        rw [hr]
        refine EvP.to (a := (((), ((), (false, ()))), (l, (l, ())))) (EvP.no rfl (EvP.nneg rfl (EvP.some (by simp)))) (EvP.no rfl ?_)
        refine EvP.to (same_caps l (by omega) _) (EvP.inr (EvP.andK (known_ok l (by omega)) ?_))
        rintro ⟨⟨⟨⟩, b, ⟨⟩⟩, k, ⟨⟩⟩ ⟨e1, e2⟩
        dsimp only at e1 e2
        rw [decide_eq_true hc] at e1
        subst e1
        exact EvP.to (a := ((false, ()), (l, (l, (k, ()))))) (EvP.no rfl (EvP.some (by (try dsimp only); rw [decide_eq_false (by omega)]))) (EvP.no rfl (EvP.some rfl))
      · exact EvP.to (a := (((), (false, ())), (l, ()))) (EvP.yes rfl (EvP.some (by (try dsimp only); rw [decide_eq_false hz]))) (EvP.no rfl (EvP.some rfl))
    · rw [show cwOf l = _ from if_neg hc]
      exact EvP.to (a := (((), (false, ())), (l, ()))) (EvP.no rfl (EvP.some rfl)) (EvP.no rfl (EvP.some rfl))
  refine EvP.andK (DrawFeed_s h1) ?_
  rintro ⟨⟨⟨⟩, ⟨⟩⟩, p, ⟨⟩⟩ ⟨p1, p2⟩
  dsimp only at p1 p2
  have hp : (p.length : Int) + ((J p).size : Int) ≤ 1048576 := by omega
  refine EvP.to (Feed_impl p hp) (EvP.to (Feed_spec p hp) ?_)
  refine EvP.to (a := (((), ((), (false, ()))), (l, (p, ((fcOf p).2.1, ((fcOf p).2.1, ())))))) (EvP.no (by simp) (EvP.some (by simp))) (EvP.no rfl ?_)
  by_cases hc : p.length ≤ 60 ∧ (Caps (J p)).2.2 = true
  · rw [show fcOf p = _ from if_pos hc]
    refine EvP.no rfl (EvP.to (all_ok p hp _ _ _ _) (EvP.to (ReadCapsules_impl _) (EvP.yes hc.2 (EvP.pos rfl (EvP.some ?_)))))
    have hpos : 0 ≤ (Caps (J p)).2.1 ∧ (Caps (J p)).2.1 ≤ ((J p).size : Int) := by
      have h2 := hc.2
      unfold Caps at h2 ⊢
      by_cases hz : 1500 < (J p).size
      · rw [if_pos hz] at h2; cases h2
      · rw [if_neg hz] at h2 ⊢
        have := cap_pos 1501 0 (J p) [] h2
        exact ⟨this.1, by have := this.2; omega⟩
    dsimp only
    rw [i64w (n := ((J p).size : Int) - (Caps (J p)).2.1) (by omega) (by omega), i64w (by omega) (by omega), decide_eq_true (by omega)]
  · rw [show fcOf p = _ from if_neg hc]
    exact EvP.yes rfl (EvP.some rfl)
end Go.Proofs.Ytdmnpmhdindabaa.Pure
