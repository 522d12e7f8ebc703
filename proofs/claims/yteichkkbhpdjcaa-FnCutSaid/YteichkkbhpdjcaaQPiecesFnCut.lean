/- The packets of a datagram: put together they are the datagram, and each reads whole. -/
import Derived.Test.YteichkkbhpdjcaaQCutFnCut
import Derived.Test.YteichkkbhpdjcaaQPre
set_option linter.unusedVariables false
set_option linter.unusedSimpArgs false
namespace Go.Proofs.Yteichkkbhpdjcaa.CFnCut
open Go Go.Proofs Go.Proofs.YteichkkbhpdjcaaPM Go.Proofs.Yteichkkbhpdjcaa.Q Go.Proofs.Yteichkkbhpdjcaa.GFnCut

/-- Texts put together. -/
def J : List ByteArray → ByteArray
  | [] => nilS
  | a :: l => a ++ J l
theorem cutF_pieces {short : Int} : ∀ {k : Nat} {s : ByteArray} {l : List ByteArray}, cutF short k s = some l → J l = s ∧ ∀ p ∈ l, ∃ h, readH p short = some (h, (p.size : Int)) := by
  intro k
  induction k with
  | zero =>
    intro s l h
    unfold cutF at h
    split at h
    · rename_i hs
      cases h
      exact ⟨(size_zero hs).symm, fun p hp => by cases hp⟩
    · cases h
  | succ k ih =>
    intro s l h
    unfold cutF at h
    split at h
    · rename_i hs
      cases h
      exact ⟨(size_zero hs).symm, fun p hp => by cases hp⟩
    · obtain ⟨⟨x, n⟩, h1, h2⟩ := Option.bind_eq_some_iff.1 h
      obtain ⟨m, h3, rfl⟩ := Option.map_eq_some_iff.1 h2
      obtain ⟨e1, e2⟩ := ih h3
      refine ⟨?_, ?_⟩
      · show _ ++ J m = s
        rw [e1]
        exact (extract_split s n.toNat).symm
      · intro p hp
        rcases List.mem_cons.1 hp with rfl | hp
        · exact ⟨x, readH_pre h1⟩
        · exact e2 p hp
theorem cutOf_pieces (s : ByteArray) (short : Int) : ((cutOf s short).1.2.1 = true → J (cutOf s short).2.1 = s) ∧ (J (cutOf s short).2.1).size ≤ 1500 ∧ ((cutOf s short).2.1 = [] ∨ 0 ≤ short ∧ short ≤ 20) ∧ ∀ p ∈ (cutOf s short).2.1, ∃ h, readH p short = some (h, (p.size : Int)) := by
  unfold cutOf
  split
  · rename_i hc
    split
    · exact ⟨fun e => (by cases e), Nat.zero_le _, .inl rfl, fun p hp => (by cases hp)⟩
    · rename_i l hl
      obtain ⟨e1, e2⟩ := cutF_pieces hl
      dsimp only
      exact ⟨fun _ => e1, by rw [e1]; exact hc.1, .inr hc.2, e2⟩
  · exact ⟨fun e => (by cases e), Nat.zero_le _, .inl rfl, fun p hp => (by cases hp)⟩
theorem sameTexts_ok (l : List ByteArray) (hl : l.length ≤ 1000000) : EvP (fun N => laws_sameTexts N l l) (· = ((true, ()), ())) := by
  refine EvP.of (fun N => laws_sameTexts.eq N _ _) (EvP.nneg rfl (EvP.to (a := .inr ((), ())) ?_ (EvP.some rfl)))
  refine EvP.count (f := fun N i (_ : Unit) => laws_sameTexts.l0 N l l (l.length : Int) i) (n := l.length) (inv := fun _ _ => True) ?_ ?_ 0 () (by omega) trivial
  · intro i _ hi _ next
    refine EvP.step (fun N => laws_sameTexts.l0.eq N _ _ _ _) (EvP.pos (by omega) (EvP.chk2 (by omega) (by omega) (EvP.chk2 (by omega) (by omega) (EvP.nneg rfl ?_))))
    rw [show IntKind.i64.wrap ((i : Int) + 1) = ((i + 1 : Nat) : Int) by rw [i64w (by omega) (by omega)]; omega]
    exact next () trivial
  · intro _ _
    exact EvP.step (fun N => laws_sameTexts.l0.eq N _ _ _ _) (EvP.neg (by omega) (EvP.some rfl))
theorem sameInts_ok (l : List Int) (hl : l.length ≤ 1000000) : EvP (fun N => laws_sameInts N l l) (· = ((true, ()), ())) := by
  refine EvP.of (fun N => laws_sameInts.eq N _ _) (EvP.nneg rfl (EvP.to (a := .inr ((), ())) ?_ (EvP.some rfl)))
  refine EvP.count (f := fun N i (_ : Unit) => laws_sameInts.l0 N l l (l.length : Int) i) (n := l.length) (inv := fun _ _ => True) ?_ ?_ 0 () (by omega) trivial
  · intro i _ hi _ next
    refine EvP.step (fun N => laws_sameInts.l0.eq N _ _ _ _) (EvP.pos (by omega) (EvP.chk2 (by omega) (by omega) (EvP.chk2 (by omega) (by omega) (EvP.nneg rfl ?_))))
    rw [show IntKind.i64.wrap ((i : Int) + 1) = ((i + 1 : Nat) : Int) by rw [i64w (by omega) (by omega)]; omega]
    exact next () trivial
  · intro _ _
    exact EvP.step (fun N => laws_sameInts.l0.eq N _ _ _ _) (EvP.neg (by omega) (EvP.some rfl))
theorem sameHeaders_ok (f b v : Int) (d c t p : ByteArray) (l : List Int) (hl : l.length ≤ 1000000) : EvP (fun N => laws_sameHeaders N f b v d c t p l f b v d c t p l) (· = ((true, ()), ())) :=
  EvP.of (fun N => laws_sameHeaders.eq N _ _ _ _ _ _ _ _ _ _ _ _ _ _ _ _) (EvP.pos rfl (EvP.pos rfl (EvP.pos rfl (EvP.pos rfl (EvP.pos rfl (EvP.pos rfl (EvP.pos rfl (EvP.to (sameInts_ok l hl) (EvP.some rfl)))))))))
theorem pieces_l {o : List Int} {d : ByteArray} {e : Int} {t : Bool} (p0 p1 : List ByteArray) (hp0 : p0.length ≤ 1000000) : ∀ (m : List ByteArray) (j : Nat) (r : ByteArray), p0.drop j = m → j + m.length = p0.length → r.size + (J m).size ≤ 1500 →
    (m = [] ∨ 0 ≤ e ∧ e ≤ 20) → (∀ p ∈ m, ∃ h, readH p e = some (h, (p.size : Int))) →
    EvP (fun N => laws_FnCut.l0 N o d e t (p0.length : Int) r (j : Int) p0 p1) (· = .inr ((r ++ J m, ()), (p0, (p1, ())))) := by
  intro m
  induction m with
  | nil =>
    intro j r hd hj hs he hp
    refine EvP.step (fun N => laws_FnCut.l0.eq N _ _ _ _ _ _ _ _ _) (EvP.neg (by simp at hj; omega) (EvP.some ?_))
    show _ = Sum.inr ((r ++ nilS, ()), (p0, (p1, ())))
    rw [app_nil]
  | cons a m ih =>
    intro j r hd hj hs he hp
    have he : 0 ≤ e ∧ e ≤ 20 := he.resolve_left (by simp)
    have hj2 : j < p0.length := by simp at hj; omega
    have hg : p0.getD j (⟨#[]⟩ : ByteArray) = a := by
      rw [List.getD_eq_getElem?_getD, ← List.head?_drop, hd]; rfl
    have hJ : (J (a :: m)).size = a.size + (J m).size := by
      show (a ++ J m).size = _
      rw [ByteArray.size_append]
    obtain ⟨h, hh⟩ := hp a List.mem_cons_self
    refine EvP.step (fun N => laws_FnCut.l0.eq N _ _ _ _ _ _ _ _ _) (EvP.pos (by omega) (EvP.chk2 (by omega) (by omega) ?_))
    rw [Int.toNat_natCast, hg]
    refine EvP.chk1 (by omega) (EvP.andK (ReadHeader_impl a (by omega) e he.1 he.2) ?_)
    intro u hu
    rw [hh] at hu
    obtain rfl : u = _ := hu
    refine EvP.to (a := (((), (false, ())), (p0, (p1, (h, ()))))) (EvP.nneg rfl (EvP.some ?_)) (EvP.no rfl ?_)
    · simp
    rw [show IntKind.i64.wrap ((j : Int) + 1) = ((j + 1 : Nat) : Int) by rw [i64w (by omega) (by omega)]; omega]
    dsimp only
    have := ih (j + 1) (r ++ a) (by rw [← List.drop_drop, hd]; rfl) (by simp at hj; omega) (by rw [ByteArray.size_append]; omega) (.inr he) (fun p hp2 => hp p (List.mem_cons_of_mem _ hp2))
    rw [app_assoc] at this
    exact this
end Go.Proofs.Yteichkkbhpdjcaa.CFnCut
