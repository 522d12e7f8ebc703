/- Ranks of live sets, as both packages give them. -/
import Derived.Test.YthkjjombaoffcaaGreatDoorQRnkSFnRanked
set_option linter.unusedVariables false
set_option linter.unusedSimpArgs false
namespace Go.Proofs.YthkjjombaoffcaaGreatDoor.CFnRanked
open Go Go.Proofs Go.Proofs.YthkjjombaoffcaaGreatDoorPM Go.Proofs.YthkjjombaoffcaaGreatDoor.Q Go.Proofs.YthkjjombaoffcaaGreatDoor.GFnRanked

theorem keyI (k : ByteArray) : EvP (fun N => impl_keyOk N k) (· = ((decide ((k.size : Int) ≤ 100), ()), ())) := EvP.of (fun N => impl_keyOk.eq N _) (EvP.some rfl)
theorem scI (k : ByteArray) (hk : k.size ≤ 1000) : ScI k (sc k) := fun b hb => scoreI b k hb hk
def okR (l : List ByteArray) (k : ByteArray) : Bool := glB l && decide ((k.size : Int) ≤ 100)
theorem okR_len {l : List ByteArray} {k : ByteArray} (h : okR l k = true) : l.length ≤ 12 := by
  have h1 : glB l = true := by simp [okR] at h; exact h.1
  exact ((glB_iff l).1 h1).2.2
theorem RankI {f : ByteArray → Int} {k : ByteArray} (hk : ScI k f) {l : List ByteArray} (hl : l.length ≤ 1000000) (hs : Small l) :
    EvP (fun N => impl_RankBackends N l k) (· = (((), (okR l k, ())), (if okR l k then isort f l else [], ()))) := by
  refine EvP.of (fun N => impl_RankBackends.eq N _ _) (EvP.to (a := ((!(okR l k), ()), ())) (EvP.to (goodI l hl hs) ?_) ?_)
  · refine EvP.sel (fun e => EvP.some ?_) (fun e => EvP.to (keyI k) (EvP.some ?_))
    · have e : glB l = false := by simpa using e
      simp [okR, e]
    · have e : glB l = true := by simpa using e
      simp [okR, e]
  · refine EvP.sel (fun e => EvP.some ?_) (fun e => ?_)
    · have e : okR l k = false := by simpa using e
      simp [e]
    · have e : okR l k = true := by simpa using e
      refine EvP.to (rankedI hk l (okR_len e) hs) (EvP.some ?_)
      simp [e]
theorem PickI {f : ByteArray → Int} {k : ByteArray} (hk : ScI k f) {l : List ByteArray} (hl : l.length ≤ 1000000) (hs : Small l) (h : okR l k = true) {a : ByteArray} {t : List ByteArray} (hf : isort f l = a :: t) :
    EvP (fun N => impl_PickBackend N l k) (· = ((a, (true, ())), ())) := by
  have hlen : l.length = (a :: t).length := by rw [← hf, isort_len]
  have h1 : glB l = true ∧ (k.size : Int) ≤ 100 := by simpa [okR] using h
  refine EvP.of (fun N => impl_PickBackend.eq N _ _) (EvP.to (a := ((false, ()), ())) (EvP.to (goodI l hl hs) ?_) (EvP.no rfl ?_))
  · dsimp only
    rw [h1.1]
    refine EvP.no rfl (EvP.neg (by rw [hlen]; simp; omega) (EvP.to (keyI k) (EvP.some ?_)))
    simp [h1.2]
  · refine EvP.to (rankedI hk l (okR_len h) hs) (EvP.chk1 (by (try dsimp only); rw [hf]; simp) (EvP.some ?_))
    rw [hf]
    rfl
theorem ScoreI {f : ByteArray → Int} {k b : ByteArray} (hk : ScI k f) (hk1 : (k.size : Int) ≤ 100) (hb : b.size ≤ 1000) (hg : gb b = true) : EvP (fun N => impl_ScoreOf N b k) (· = ((f b, (true, ())), ())) := by
  refine EvP.of (fun N => impl_ScoreOf.eq N _ _) (EvP.to (a := ((false, ()), ())) (EvP.to (impl_gb b hb) ?_) (EvP.no rfl (EvP.to (hk b hb) (EvP.some rfl))))
  dsimp only
  rw [hg]
  refine EvP.no rfl (EvP.to (keyI k) (EvP.some ?_))
  simp [hk1]

def ScS (k : ByteArray) (f : ByteArray → Int) : Prop := ∀ b : ByteArray, b.size ≤ 1000 → EvP (fun N => spec_l9Score_2 N b k K64 H8) (· = ((f b, ()), ((K64, (H8, ())), ())))
theorem scS (k : ByteArray) (hk : k.size ≤ 1000) : ScS k (sc k) := fun b hb => scoreS b k hb hk
theorem at_l1 {f : ByteArray → Int} (o2 x : ByteArray) (t : List ByteArray) (u v : Int) (p q : List Int) (A B : List ByteArray) (hl : (A ++ B).length ≤ 1000) (hA : ∀ a ∈ A, f x ≤ f a) (hB : ∀ b ∈ B, f b < f x) : ∀ (d i : Nat), i + d = A.length →
    EvP (fun N => spec_RankBackends.l1 N o2 x (f x) t u v (i : Int) p q (A ++ B) ((A ++ B).map f)) (· = ((((), ((), ((), ((A.length : Int), ())))), ((p, (q, ())), (A ++ B, ((A ++ B).map f, ()))))))
  | 0, i, h => by
    have hi : i = A.length := by omega
    subst hi
    refine EvP.step (fun N => spec_RankBackends.l1.eq N _ _ _ _ _ _ _ _ _ _ _) (EvP.to (a := ((((), ((), ((), (false, ())))), ((p, (q, ())), (A ++ B, ((A ++ B).map f, ())))))) ?_ (EvP.no rfl (EvP.some rfl)))
    match B, hB with
    | [], _ => exact EvP.neg (by simp) (EvP.some rfl)
    | b :: B, hB =>
      have hb := hB b List.mem_cons_self
      refine EvP.pos (by simp; omega) (EvP.chk2 (by omega) (by simp; omega) (EvP.some ?_))
      have e : ((A ++ b :: B).map f).getD (Int.toNat (A.length : Int)) 0 = f b := by
        rw [Int.toNat_natCast, List.getD_eq_getElem?_getD, List.getElem?_map, List.getElem?_append_right (Nat.le_refl _), Nat.sub_self]
        rfl
      rw [e, decide_eq_false (by omega)]
  | d + 1, i, h => by
    have hi : i < A.length := by omega
    have ha := hA _ (List.getElem_mem hi)
    rw [List.length_append] at hl
    have w1 : IntKind.i64.wrap ((i : Int) + 1) = ((i + 1 : Nat) : Int) := by rw [i64w (by omega) (by omega)]; omega
    refine EvP.step (fun N => spec_RankBackends.l1.eq N _ _ _ _ _ _ _ _ _ _ _) (EvP.to (a := ((((), ((), ((), (true, ())))), ((p, (q, ())), (A ++ B, ((A ++ B).map f, ())))))) ?_ (EvP.yes rfl ?_))
    · refine EvP.pos (by simp; omega) (EvP.chk2 (by omega) (by simp; omega) (EvP.some ?_))
      have e : ((A ++ B).map f).getD (Int.toNat (i : Int)) 0 = f A[i] := by
        rw [Int.toNat_natCast, List.getD_eq_getElem?_getD, List.getElem?_map, List.getElem?_append_left hi, List.getElem?_eq_getElem hi]
        rfl
      rw [e, decide_eq_true ha]
    · dsimp only
      rw [w1]
      exact at_l1 o2 x t u v p q A B (by rw [List.length_append]; exact hl) hA hB d (i + 1) (by omega)
theorem cutA {α : Type} (A B : List α) {n : Nat} (h : n = A.length) : ((A ++ B).drop 0).take (Int.toNat (n : Int) - 0) = A := by
  subst h
  rw [Int.toNat_natCast, List.drop_zero, Nat.sub_zero, List.take_left']
  rfl
theorem cutB {α : Type} (A B : List α) {n : Nat} (h : n = A.length) : ((A ++ B).drop (Int.toNat (n : Int))).take (Int.toNat ((A ++ B).length : Int) - Int.toNat (n : Int)) = B := by
  subst h
  rw [Int.toNat_natCast, Int.toNat_natCast, List.drop_left, List.take_of_length_le (by simp)]
theorem rank_l0 {f : ByteArray → Int} {k : ByteArray} (hk : ScS k f) {l : List ByteArray} (hl : l.length ≤ 12) (hs : Small l) : ∀ (d i : Nat), i + d = l.length →
    EvP (fun N => spec_RankBackends.l0 N k l (l.length : Int) (i : Int) K64 H8 (isort f (l.take i)) ((isort f (l.take i)).map f)) (· = ((((), ()), ((K64, (H8, ())), (isort f l, ())))))
  | 0, i, h => by
    refine EvP.step (fun N => spec_RankBackends.l0.eq N _ _ _ _ _ _ _ _) (EvP.neg (by omega) (EvP.some ?_))
    rw [List.take_of_length_le (by omega)]
  | d + 1, i, h => by
    have hm : (most : Nat) = 68719476736 := rfl
    have hi : i < l.length := by omega
    have ht : l.take (i + 1) = l.take i ++ [l[i]] := by rw [List.take_add_one, List.getElem?_eq_getElem hi]; rfl
    have hx : l.getD (Int.toNat (i : Int)) ⟨#[]⟩ = l[i] := by rw [Int.toNat_natCast, List.getD_eq_getElem?_getD, List.getElem?_eq_getElem hi]; rfl
    have hsx : (l[i]).size ≤ 1000 := hs _ (List.getElem_mem hi)
    have hlen : (isort f (l.take i)).length = i := by rw [isort_len, List.length_take]; omega
    have w1 : IntKind.i64.wrap ((i : Int) + 1) = ((i + 1 : Nat) : Int) := by rw [i64w (by omega) (by omega)]; omega
    have ih := rank_l0 hk hl hs d (i + 1) (by omega)
    rw [ht, isort_snoc] at ih
    obtain ⟨A, B, hAB, hA, hB⟩ := ins_ex f l[i] (isort_fall f (l.take i))
    rw [hAB, ins_split f hA hB] at ih
    rw [hAB] at hlen ⊢
    generalize l[i] = x at hx hsx hA hB ih
    have hlAB : A.length + B.length = i := by rw [← List.length_append]; exact hlen
    have c1 := cutA A B rfl
    have c2 := cutB A B rfl
    have c3 := cutA (A.map f) (B.map f) (n := A.length) (by simp)
    have c4 := cutB (A.map f) (B.map f) (n := A.length) (by simp)
    refine EvP.step (fun N => spec_RankBackends.l0.eq N _ _ _ _ _ _ _ _) (EvP.pos (by omega) (EvP.chk2 (by omega) (by omega) ?_))
    rw [hx]
    refine EvP.to (hk x hsx) (EvP.to (at_l1 k x l (l.length : Int) (i : Int) K64 H8 A B (by omega) hA hB A.length 0 (by omega)) ?_)
    dsimp only
    rw [List.map_append, c1, c2, c3, c4, w1]
    refine EvP.chk2 (by omega) (by simp; omega) (EvP.chk1 (by rw [hm]; omega) (EvP.chk2 (by omega) (by simp; omega) (EvP.chk1 (by rw [hm, List.length_map]; omega) (EvP.chk1 (by rw [hm]; omega) (EvP.chk1 (by rw [hm, List.length_map]; omega) ?_)))))
    refine EvP.chk3 (by omega) (by simp; omega) (by omega) (EvP.chk1 (by rw [hm]; simp; omega) (EvP.chk3 (by omega) (by simp; omega) (by omega) (EvP.chk1 (by rw [hm]; simp; omega) ?_)))
    have e1 : A ++ [x] ++ B = A ++ x :: B := by simp
    have e2 : A.map f ++ [f x] ++ B.map f = (A ++ x :: B).map f := by simp
    rw [e1, e2]
    exact ih
theorem RankS {f : ByteArray → Int} {k : ByteArray} (hk : ScS k f) {l : List ByteArray} (hl : l.length ≤ 1000000) (hs : Small l) :
    EvP (fun N => spec_RankBackends N l k) (· = (((), (okR l k, ())), (if okR l k then isort f l else [], ()))) := by
  refine EvP.of (fun N => spec_RankBackends.eq N _ _) (EvP.to (a := ((!(okR l k), ()), ())) (EvP.to (goodS l hl hs) ?_) ?_)
  · refine EvP.sel (fun e => EvP.some ?_) (fun e => EvP.some ?_)
    · have e : glB l = false := by simpa using e
      simp [okR, e]
    · have e : glB l = true := by simpa using e
      simp only [okR, e, Bool.true_and]
      by_cases h : (k.size : Int) ≤ 100
      · rw [decide_eq_true h, decide_eq_false (by omega)]; rfl
      · rw [decide_eq_false h, decide_eq_true (by omega)]; rfl
  · refine EvP.sel (fun e => EvP.some ?_) (fun e => ?_)
    · have e : okR l k = false := by simpa using e
      simp [e]
    · have e : okR l k = true := by simpa using e
      refine EvP.to new_spec (EvP.to (rank_l0 hk (okR_len e) hs l.length 0 (by omega)) (EvP.some ?_))
      simp [e]
theorem same_l (l : List ByteArray) (hl : l.length ≤ 1000000) : ∀ (d i : Nat), i + d = l.length → EvP (fun N => laws_sameTexts.l0 N l l (l.length : Int) (i : Int)) (· = .inr ((), ()))
  | 0, i, h => EvP.step (fun N => laws_sameTexts.l0.eq N _ _ _ _) (EvP.neg (by omega) (EvP.some rfl))
  | d + 1, i, h => by
    have w1 : IntKind.i64.wrap ((i : Int) + 1) = ((i + 1 : Nat) : Int) := by rw [i64w (by omega) (by omega)]; omega
    refine EvP.step (fun N => laws_sameTexts.l0.eq N _ _ _ _) (EvP.pos (by omega) (EvP.chk2 (by omega) (by omega) (EvP.chk2 (by omega) (by omega) (EvP.nneg rfl ?_))))
    rw [w1]
    exact same_l l hl d (i + 1) (by omega)
theorem same_ok (l : List ByteArray) (hl : l.length ≤ 1000000) : EvP (fun N => laws_sameTexts N l l) (· = ((true, ()), ())) :=
  EvP.of (fun N => laws_sameTexts.eq N _ _) (EvP.nneg rfl (EvP.to (same_l l hl l.length 0 (by omega)) (EvP.inr (EvP.some rfl))))
end Go.Proofs.YthkjjombaoffcaaGreatDoor.CFnRanked
