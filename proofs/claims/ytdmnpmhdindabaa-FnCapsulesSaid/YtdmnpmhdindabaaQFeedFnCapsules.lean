/- Capsules that come in pieces. -/
import Derived.Test.YtdmnpmhdindabaaQCapFnCapsules
import Derived.Test.YtdmnpmhdindabaaQJoin
set_option linter.unusedVariables false
set_option linter.unusedSimpArgs false
namespace Go.Proofs.Ytdmnpmhdindabaa.CFnCapsules
open Go Go.Proofs Go.Proofs.YtdmnpmhdindabaaPM Go.Proofs.Ytdmnpmhdindabaa.Q Go.Proofs.Ytdmnpmhdindabaa.GFnCapsules

theorem join_spec (G : List ByteArray) (hl : (G.length : Int) + ((J G).size : Int) ≤ 1048576) : EvP (fun N => spec_FeedCapsules.l0 N G G (G.length : Int) (⟨#[]⟩ : ByteArray) 0) (· = ((J G, ()), ())) := by
  refine EvP.count (f := fun N i (a : ByteArray) => spec_FeedCapsules.l0 N G G (G.length : Int) a i) (n := G.length) (inv := fun i a => a = J (G.take i)) ?_ ?_ 0 _ (by omega) rfl
  · rintro i a hi rfl next
    refine EvP.step (fun N => spec_FeedCapsules.l0.eq N _ _ _ _ _) (EvP.pos (by omega) (EvP.chk2 (by omega) (by omega) ?_))
    have hs : (J (G.take (i + 1))).size ≤ (J G).size := by
      have e : J G = J (G.take (i + 1)) ++ J (G.drop (i + 1)) := by
        have app : ∀ l m : List ByteArray, J (l ++ m) = J l ++ J m := by
          intro l m
          induction l with
          | nil => show J m = (⟨#[]⟩ : ByteArray) ++ J m; rw [nil_app]
          | cons a l ih => show a ++ J (l ++ m) = (a ++ J l) ++ J m; rw [ih, app_assoc]
        rw [← app, List.take_append_drop]
      rw [e, ByteArray.size_append]
      omega
    rw [J_take hi, ByteArray.size_append] at hs
    rw [Int.toNat_natCast, getD_at hi, show IntKind.i64.wrap ((i : Int) + 1) = ((i + 1 : Nat) : Int) by rw [i64w (by omega) (by omega)]; omega]
    refine EvP.chk1 (by omega) ?_
    rw [← J_take hi]
    exact next _ rfl
  · rintro a rfl
    refine EvP.step (fun N => spec_FeedCapsules.l0.eq N _ _ _ _ _) (EvP.neg (by omega) (EvP.some ?_))
    rw [List.take_length]
/-- What both packages answer. -/
def fcOf (G : List ByteArray) : (Unit × (Int × (Bool × Unit))) × (List (Int × ByteArray) × Unit) :=
  if G.length ≤ 60 ∧ (Caps (J G)).2.2 = true then (((), (IntKind.i64.wrap (((J G).size : Int) - (Caps (J G)).2.1), (true, ()))), ((Caps (J G)).1, ())) else (((), (0, (false, ()))), ([], ()))
theorem fcOf_len (G : List ByteArray) : (fcOf G).2.1.length ≤ 30 := by
  unfold fcOf
  split
  · exact Caps_length _
  · exact Nat.zero_le _
theorem Feed_impl (G : List ByteArray) (hl : (G.length : Int) + ((J G).size : Int) ≤ 1048576) : EvP (fun N => impl_FeedCapsules N G) (· = fcOf G) := by
  refine EvP.of (fun N => impl_FeedCapsules.eq N _) ?_
  refine EvP.to (a := ((J G, ()), ())) (EvP.of (fun N => strings_Join.eq N _ _) ?_) (EvP.to (ReadCapsules_impl _) ?_)
  · rw [joinL_nil]
    exact EvP.chk1 (by omega) (EvP.chk1 (by omega) (EvP.some rfl))
  · unfold fcOf
    dsimp only
    cases hc : (Caps (J G)).2.2 with
    | false => rw [if_neg (by simp)]; exact EvP.yes rfl (EvP.some rfl)
    | true =>
      refine EvP.no rfl (EvP.ite (fun h => ?_) (fun h => ?_))
      · rw [if_neg (by omega)]; exact EvP.some rfl
      · rw [if_pos ⟨by omega, rfl⟩]; exact EvP.some rfl
theorem Feed_spec (G : List ByteArray) (hl : (G.length : Int) + ((J G).size : Int) ≤ 1048576) : EvP (fun N => spec_FeedCapsules N G) (· = fcOf G) := by
  refine EvP.of (fun N => spec_FeedCapsules.eq N _) (EvP.to (join_spec G hl) ?_)
  refine EvP.to (a := ((decide (60 < G.length ∨ 1500 < (J G).size), ()), ())) ?_ ?_
  · refine EvP.ite (fun h => EvP.some ?_) (fun h => EvP.some ?_)
    · rw [decide_eq_true (show 60 < G.length ∨ 1500 < (J G).size by omega)]
    · dsimp only
      congr 2
      exact dec_eq (fun hq => .inr (by omega)) (fun hq => by omega)
  · unfold fcOf
    refine EvP.ite (fun h => ?_) (fun h => ?_)
    · have : ¬ (G.length ≤ 60 ∧ (Caps (J G)).2.2 = true) := by
        rintro ⟨h1, h2⟩
        unfold Caps at h2
        rw [if_pos (by omega)] at h2
        cases h2
      rw [if_neg this]; exact EvP.some rfl
    · dsimp only
      refine EvP.to (read16_spec _ (by omega)) ?_
      cases hc : (Caps (J G)).2.2 with
      | false => rw [if_neg (by simp)]; exact EvP.yes rfl (EvP.some rfl)
      | true => rw [if_pos ⟨by omega, rfl⟩]; exact EvP.no rfl (EvP.some rfl)
end Go.Proofs.Ytdmnpmhdindabaa.CFnCapsules
