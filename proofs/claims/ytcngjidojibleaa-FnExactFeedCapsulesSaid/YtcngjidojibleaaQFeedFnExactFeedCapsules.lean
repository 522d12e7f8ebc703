/- Capsules that come in pieces. -/
import Derived.Test.YtcngjidojibleaaQCapFnExactFeedCapsules
import Derived.Test.YtcngjidojibleaaPmLaw
set_option linter.unusedVariables false
set_option linter.unusedSimpArgs false
namespace Go.Proofs.Ytcngjidojibleaa.CFnExactFeedCapsules
open Go Go.Proofs Go.Proofs.YtcngjidojibleaaPM Go.Proofs.Ytcngjidojibleaa.Q Go.Proofs.Ytcngjidojibleaa.GFnExactFeedCapsules

/-- Texts put together. -/
def J : List ByteArray → ByteArray
  | [] => ⟨#[]⟩
  | a :: l => a ++ J l
theorem J_snoc (l : List ByteArray) (s : ByteArray) : J (l ++ [s]) = J l ++ s := by
  induction l with
  | nil => show s ++ (⟨#[]⟩ : ByteArray) = (⟨#[]⟩ : ByteArray) ++ s; rw [app_nil, nil_app]
  | cons a l ih => show a ++ J (l ++ [s]) = (a ++ J l) ++ s; rw [ih, app_assoc]
theorem J_take {l : List ByteArray} {i : Nat} (h : i < l.length) : J (l.take (i + 1)) = J (l.take i) ++ l[i] := by
  rw [List.take_succ_eq_append_getElem h, J_snoc]
theorem join_nil (l : List (List UInt8)) : List.intercalate [] l = l.flatten := by
  induction l with
  | nil => rfl
  | cons a l ih =>
    cases l with
    | nil => simp [List.intercalate]
    | cons b l =>
      simp only [List.intercalate, List.intersperse, List.flatten_cons, List.nil_append] at ih ⊢
      rw [ih]
theorem J_data (l : List ByteArray) : (J l).data.toList = (l.map (·.data.toList)).flatten := by
  induction l with
  | nil => rfl
  | cons a l ih =>
    show (a ++ J l).data.toList = _
    rw [ByteArray.data_append, Array.toList_append, ih]
    rfl
theorem joinL_nil (l : List ByteArray) : joinL l (⟨#[]⟩ : ByteArray) = J l := by
  unfold joinL
  show (⟨(List.intercalate [] (l.map (·.data.toList))).toArray⟩ : ByteArray) = J l
  rw [join_nil, ← J_data]
theorem getD_at {l : List ByteArray} {i : Nat} (h : i < l.length) : l.getD i (⟨#[]⟩ : ByteArray) = l[i] := by
  rw [List.getD_eq_getElem?_getD, List.getElem?_eq_getElem h]; rfl
theorem sz_ok (G : List ByteArray) (s0 : G.length ≤ maxLen) (h0 : ∀ s ∈ G, s.size ≤ maxLen) : EvP (fun N => laws_szStringS N G 1048576) (fun r => ¬ r.1.1 < 0 → (G.length : Int) + ((J G).size : Int) ≤ 1048576) := by
  have s0 : G.length ≤ 9223372036854775807 := s0
  refine EvP.of (fun N => laws_szStringS.eq N _ _) ?_
  rw [i64w (by omega) (by omega)]
  refine EvP.ite (fun h => EvP.some (fun h => absurd (by decide) h)) (fun h => ?_)
  refine EvP.andK (Q := fun r => (∀ x, r = .inl x → x.1.1 = -1) ∧ (∀ x, r = .inr x → 0 ≤ x.1.1 ∧ x.1.1 + (G.length : Int) + ((J G).size : Int) = 1048576)) ?_ ?_
  · refine EvP.count (f := fun N i (a : Int) => laws_szStringS.l0 N G a i) (n := G.length) (inv := fun i a => 0 ≤ a ∧ a + (G.length : Int) + ((J (G.take i)).size : Int) = 1048576) ?_ ?_ 0 _ (by omega) ⟨by omega, by show _ + ((J []).size : Int) = _; rw [show (J []).size = 0 from rfl]; omega⟩
    · rintro i a hi ⟨a0, a1⟩ next
      refine EvP.step (fun N => laws_szStringS.l0.eq N _ _ _) (EvP.pos (by omega) (EvP.chk2 (by omega) (by omega) ?_))
      rw [Int.toNat_natCast, getD_at hi]
      have hz : (G[i]).size ≤ 9223372036854775807 := h0 _ (List.getElem_mem hi)
      rw [i64w (by omega) (by omega)]
      refine EvP.ite (fun h => EvP.some ⟨fun x e => (by cases e; rfl), fun x e => (by cases e)⟩) (fun h => ?_)
      rw [show IntKind.i64.wrap ((i : Int) + 1) = ((i + 1 : Nat) : Int) by rw [i64w (by omega) (by omega)]; omega]
      refine next _ ⟨by omega, ?_⟩
      rw [J_take hi, ByteArray.size_append]
      omega
    · rintro a ⟨a0, a1⟩
      refine EvP.step (fun N => laws_szStringS.l0.eq N _ _ _) (EvP.neg (by omega) (EvP.some ⟨fun x e => (by cases e), fun x e => ?_⟩))
      cases e
      rw [List.take_length] at a1
      exact ⟨a0, a1⟩
  · rintro r ⟨h1, h2⟩
    refine EvP.or (fun x e => EvP.some ?_) (fun x e => EvP.some ?_)
    · have := h1 x e
      intro h
      exact absurd (by dsimp only; omega) h
    · have := h2 x e
      intro h
      omega
theorem toS_ok (G : List ByteArray) (hl : G.length ≤ 1048576) : EvP (fun N => laws_toStringS N G) (· = (((), ()), (G, ()))) := by
  refine EvP.of (fun N => laws_toStringS.eq N _) (EvP.chk ?_ (EvP.to (a := (((), ()), (G, ()))) ?_ (EvP.some rfl)))
  · have : smallI (G.length : Int) = true := by show Nat.blt G.length 68719476736 = true; rw [Nat.blt_eq]; omega
    rw [this]; simp
  · refine EvP.count (f := fun N i (a : List ByteArray) => laws_toStringS.l0 N G i a) (n := G.length) (inv := fun i a => a = G.take i ++ List.replicate (G.length - i) (⟨#[]⟩ : ByteArray)) ?_ ?_ 0 _ (by omega) (by simp)
    · rintro i a hi rfl next
      have hlen : (G.take i ++ List.replicate (G.length - i) (⟨#[]⟩ : ByteArray)).length = G.length := by rw [List.length_append, List.length_take, List.length_replicate]; omega
      refine EvP.step (fun N => laws_toStringS.l0.eq N _ _ _) (EvP.pos (by omega) (EvP.chk2 (by omega) (by omega) ?_))
      rw [hlen]
      refine EvP.chk2 (by omega) (by omega) ?_
      rw [Int.toNat_natCast, getD_at hi, show IntKind.i64.wrap ((i : Int) + 1) = ((i + 1 : Nat) : Int) by rw [i64w (by omega) (by omega)]; omega]
      refine next _ ?_
      have hti : (G.take i).length = i := by rw [List.length_take]; omega
      rw [List.set_append_right _ _ (by omega), hti, Nat.sub_self, List.take_succ_eq_append_getElem hi, show G.length - i = (G.length - (i + 1)) + 1 by omega, List.replicate_succ, List.set_cons_zero, List.append_assoc]
      rfl
    · rintro a rfl
      refine EvP.step (fun N => laws_toStringS.l0.eq N _ _ _) (EvP.neg (by omega) (EvP.some ?_))
      simp
theorem join_spec (G : List ByteArray) (hl : (G.length : Int) + ((J G).size : Int) ≤ 1048576) : EvP (fun N => spec_FeedCapsules.l0 N G G (G.length : Int) (⟨#[]⟩ : ByteArray) 0) (· = ((J G, ()), ())) := by
  refine EvP.count (f := fun N i (a : ByteArray) => spec_FeedCapsules.l0 N G G (G.length : Int) a i) (n := G.length) (inv := fun i a => a = J (G.take i)) ?_ ?_ 0 _ (by omega) rfl
  · rintro i a hi rfl next
    refine EvP.step (fun N => spec_FeedCapsules.l0.eq N _ _ _ _ _) (EvP.pos (by omega) (EvP.chk2 (by omega) (by omega) ?_))
    have hs : (J (G.take (i + 1))).size ≤ (J G).size := by
      have e : J G = J (G.take (i + 1)) ++ J (G.drop (i + 1)) := by
        have app : ∀ l m : List ByteArray, J (l ++ m) = J l ++ J m := by
          intro l m
          induction l with
          | nil => show J m = (⟨#[]⟩ : ByteArray) ++ J m; rw [nil_app]
          | cons a l ih => show a ++ J (l ++ m) = (a ++ J l) ++ J m; rw [ih, app_assoc]
        rw [← app, List.take_append_drop]
      rw [e, ByteArray.size_append]
      omega
    rw [J_take hi, ByteArray.size_append] at hs
    rw [Int.toNat_natCast, getD_at hi, show IntKind.i64.wrap ((i : Int) + 1) = ((i + 1 : Nat) : Int) by rw [i64w (by omega) (by omega)]; omega]
    refine EvP.chk1 (by omega) ?_
    rw [← J_take hi]
    exact next _ rfl
  · rintro a rfl
    refine EvP.step (fun N => spec_FeedCapsules.l0.eq N _ _ _ _ _) (EvP.neg (by omega) (EvP.some ?_))
    rw [List.take_length]
/-- What both packages answer. -/
def fcOf (G : List ByteArray) : (Unit × (Int × (Bool × Unit))) × (List (Int × ByteArray) × Unit) :=
  if G.length ≤ 60 ∧ (Caps (J G)).2.2 = true then (((), (IntKind.i64.wrap (((J G).size : Int) - (Caps (J G)).2.1), (true, ()))), ((Caps (J G)).1, ())) else (((), (0, (false, ()))), ([], ()))
theorem fcOf_len (G : List ByteArray) : (fcOf G).2.1.length ≤ 30 := by
  unfold fcOf
  split
  · exact Caps_length _
  · exact Nat.zero_le _
theorem Feed_impl (G : List ByteArray) (hl : (G.length : Int) + ((J G).size : Int) ≤ 1048576) : EvP (fun N => impl_FeedCapsules N G) (· = fcOf G) := by
  refine EvP.of (fun N => impl_FeedCapsules.eq N _) ?_
  refine EvP.to (a := ((J G, ()), ())) (EvP.of (fun N => strings_Join.eq N _ _) ?_) (EvP.to (ReadCapsules_impl _) ?_)
  · rw [joinL_nil]
    exact EvP.chk1 (by omega) (EvP.chk1 (by omega) (EvP.some rfl))
  · unfold fcOf
    dsimp only
    cases hc : (Caps (J G)).2.2 with
    | false => rw [if_neg (by simp)]; exact EvP.yes rfl (EvP.some rfl)
    | true =>
      refine EvP.no rfl (EvP.ite (fun h => ?_) (fun h => ?_))
      · rw [if_neg (by omega)]; exact EvP.some rfl
      · rw [if_pos ⟨by omega, rfl⟩]; exact EvP.some rfl
theorem Feed_spec (G : List ByteArray) (hl : (G.length : Int) + ((J G).size : Int) ≤ 1048576) : EvP (fun N => spec_FeedCapsules N G) (· = fcOf G) := by
  refine EvP.of (fun N => spec_FeedCapsules.eq N _) (EvP.to (join_spec G hl) ?_)
  refine EvP.to (a := ((decide (60 < G.length ∨ 1500 < (J G).size), ()), ())) ?_ ?_
  · refine EvP.ite (fun h => EvP.some ?_) (fun h => EvP.some ?_)
    · rw [decide_eq_true (show 60 < G.length ∨ 1500 < (J G).size by omega)]
    · dsimp only
      congr 2
      exact dec_eq (fun hq => .inr (by omega)) (fun hq => by omega)
  · unfold fcOf
    refine EvP.ite (fun h => ?_) (fun h => ?_)
    · have : ¬ (G.length ≤ 60 ∧ (Caps (J G)).2.2 = true) := by
        rintro ⟨h1, h2⟩
        unfold Caps at h2
        rw [if_pos (by omega)] at h2
        cases h2
      rw [if_neg this]; exact EvP.some rfl
    · dsimp only
      refine EvP.to (read16_spec _ (by omega)) ?_
      cases hc : (Caps (J G)).2.2 with
      | false => rw [if_neg (by simp)]; exact EvP.yes rfl (EvP.some rfl)
      | true => rw [if_pos ⟨by omega, rfl⟩]; exact EvP.no rfl (EvP.some rfl)
end Go.Proofs.Ytcngjidojibleaa.CFnExactFeedCapsules
