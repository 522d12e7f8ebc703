/- Scores, and the implementation's ranks: insertion sort by falling scores. -/
import Derived.Test.YthkjjombaoffcaaGreatDoorQRnkGFnRendezvous
import Derived.Test.YthkjjombaoffcaaGreatDoorQShaTwoFnRendezvous
import Derived.Test.YthkjjombaoffcaaGreatDoorQShaPadFnRendezvous
import Derived.Test.YthkjjombaoffcaaGreatDoorQNumImplFnRendezvous
import Derived.Test.YthkjjombaoffcaaGreatDoorQBigSpecFnRendezvous
set_option linter.unusedVariables false
set_option linter.unusedSimpArgs false
namespace Go.Proofs.YthkjjombaoffcaaGreatDoor.CFnRendezvous
open Go Go.Proofs Go.Proofs.YthkjjombaoffcaaGreatDoorPM Go.Proofs.YthkjjombaoffcaaGreatDoor.Q Go.Proofs.YthkjjombaoffcaaGreatDoor.GFnRendezvous

theorem shaF_size (s : ByteArray) : (shaF s).size = 32 := by rw [shaF, strL_size, outL_len]
def scTxt (k b : ByteArray) : ByteArray := (shaF ((b ++ (⟨#[0]⟩ : ByteArray)) ++ k)).extract 0 7
def sc (k b : ByteArray) : Int := vof (scTxt k b)
theorem scTxt_size (k b : ByteArray) : (scTxt k b).size = 7 := by rw [scTxt, extract_size (by rw [shaF_size]; decide)]
theorem sc_range (k b : ByteArray) : 0 ≤ sc k b ∧ sc k b < 72057594037927936 := by
  have := vof_range (scTxt k b)
  rw [scTxt_size] at this
  exact this
theorem txt_size (k b : ByteArray) : ((b ++ (⟨#[0]⟩ : ByteArray)) ++ k).size = b.size + 1 + k.size := by
  rw [ByteArray.size_append, ByteArray.size_append, one_size]
theorem scoreI (b k : ByteArray) (hb : b.size ≤ 1000) (hk : k.size ≤ 1000) : EvP (fun N => impl_score N b k) (· = ((sc k b, ()), ())) := by
  have h1 := sc_range k b
  have h2 := number_ok (scTxt k b) (by rw [scTxt_size]; decide)
  have h3 := sha_impl ((b ++ (⟨#[0]⟩ : ByteArray)) ++ k) (by rw [txt_size]; omega)
  have h4 := shaF_size ((b ++ (⟨#[0]⟩ : ByteArray)) ++ k)
  have e : (shaF ((b ++ (⟨#[0]⟩ : ByteArray)) ++ k)).extract 0 7 = scTxt k b := rfl
  have e2 : vof (scTxt k b) = sc k b := rfl
  rw [e2] at h2
  generalize scTxt k b = t at e h2
  generalize sc k b = n at h1 h2 ⊢
  refine EvP.of (fun N => impl_score.eq N _ _) (EvP.chk1 (by omega) (EvP.chk1 (by rw [ByteArray.size_append, one_size]; omega) (EvP.to h3 ?_)))
  generalize shaF ((b ++ (⟨#[0]⟩ : ByteArray)) ++ k) = u at e h4 ⊢
  dsimp only
  rw [e]
  refine EvP.chk1 (by omega) (EvP.to h2 (EvP.some ?_))
  dsimp only
  rw [i64w (by omega) (by omega)]
theorem scoreS (b k : ByteArray) (hb : b.size ≤ 1000) (hk : k.size ≤ 1000) : EvP (fun N => spec_l9Score_2 N b k K64 H8) (· = ((sc k b, ()), ((K64, (H8, ())), ()))) := by
  have h2 := big_ok (scTxt k b) (by rw [scTxt_size]; decide)
  have h3 := sum_spec ((b ++ (⟨#[0]⟩ : ByteArray)) ++ k) (by rw [txt_size]; omega)
  have h4 := shaF_size ((b ++ (⟨#[0]⟩ : ByteArray)) ++ k)
  have e : (shaF ((b ++ (⟨#[0]⟩ : ByteArray)) ++ k)).extract 0 7 = scTxt k b := rfl
  have e2 : vof (scTxt k b) = sc k b := rfl
  rw [e2] at h2
  generalize scTxt k b = t at e h2
  generalize sc k b = n at h2 ⊢
  refine EvP.of (fun N => spec_l9Score_2.eq N _ _ _ _) (EvP.chk1 (by omega) (EvP.chk1 (by rw [ByteArray.size_append, one_size]; omega) (EvP.to h3 ?_)))
  generalize shaF ((b ++ (⟨#[0]⟩ : ByteArray)) ++ k) = u at e h4 ⊢
  dsimp only
  rw [e]
  exact EvP.chk1 (by omega) (EvP.to h2 (EvP.some rfl))

def ScI (k : ByteArray) (f : ByteArray → Int) : Prop := ∀ b : ByteArray, b.size ≤ 1000 → EvP (fun N => impl_score N b k) (· = ((f b, ()), ()))
theorem nanI (x : Int) : EvP (fun N => cmp_isNaNint N x) (· = ((false, ()), ())) := EvP.of (fun N => cmp_isNaNint.eq N _) (EvP.some (by simp))
theorem cmpI (x y : Int) : EvP (fun N => cmp_Compareint N x y) (fun r => decide (r.1.1 < 0) = decide (x < y)) := by
  refine EvP.of (fun N => cmp_Compareint.eq N _ _) (EvP.to (nanI x) (EvP.to (nanI y) (EvP.no rfl (EvP.no rfl (EvP.ite (fun h => EvP.some ?_) (fun h => EvP.ite (fun h' => EvP.some ?_) (fun h' => EvP.some ?_)))))))
  · simp [h]
  · simp [h]
  · simp [h]
theorem cmpB {f : ByteArray → Int} {k : ByteArray} (hk : ScI k f) (a b : ByteArray) (ha : a.size ≤ 1000) (hb : b.size ≤ 1000) :
    EvP (fun N => impl_ranked_1 N a b k) (fun r => decide (r.1.1 < 0) = decide (f b < f a) ∧ r.2 = ((k, ()), ())) :=
  EvP.of (fun N => impl_ranked_1.eq N _ _ _) (EvP.to (hk b hb) (EvP.to (hk a ha) (EvP.andK (cmpI _ _) fun r hr => EvP.some ⟨hr, rfl⟩)))

theorem getD_app {A R : List ByteArray} {a : ByteArray} {n : Nat} (h : n = A.length) : (A ++ a :: R).getD n ⟨#[]⟩ = a := by
  subst h
  rw [List.getD_eq_getElem?_getD, List.getElem?_append_right (Nat.le_refl _), Nat.sub_self]
  rfl
theorem set_app {A R : List ByteArray} {a b : ByteArray} {n : Nat} (h : n = A.length) : (A ++ a :: R).set n b = A ++ b :: R := by
  subst h
  rw [List.set_append_right _ _ (Nat.le_refl _), Nat.sub_self]
  rfl
def Small (l : List ByteArray) : Prop := ∀ x ∈ l, x.size ≤ 1000
theorem ins_l1 {f : ByteArray → Int} {k : ByteArray} (hk : ScI k f) (b2 i1 : Int) (x : ByteArray) (hx : x.size ≤ 1000) (rest : List ByteArray) : ∀ (n : Nat) (A B : List ByteArray), A.length = n → (A ++ x :: (B ++ rest)).length ≤ 1000 → Small A → Fall f A → (∀ b ∈ B, f b < f x) →
    EvP (fun N => slices_insertionSortCmpFuncstring.l1 N 0 b2 i1 (n : Int) (A ++ x :: (B ++ rest)) k) (· = ((((), (((), ()), ())), (ins f x (A ++ B) ++ rest, ((k, ()), ())))))
  | 0, A, B, hn, hl, hA, hf, hB => by
    have hA0 : A = [] := List.eq_nil_of_length_eq_zero hn
    subst hA0
    refine EvP.step (fun N => slices_insertionSortCmpFuncstring.l1.eq N _ _ _ _ _ _) (EvP.to (EvP.neg (by omega) (EvP.some rfl)) (EvP.no rfl (EvP.some ?_)))
    rw [ins_split f (A := []) (fun _ h => by cases h) hB]
    simp
  | n + 1, A, B, hn, hl, hA, hf, hB => by
    obtain ⟨A', a, rfl⟩ : ∃ A' a, A = A' ++ [a] := ⟨A.dropLast, A.getLast (by intro h; subst h; cases hn), (List.dropLast_concat_getLast _).symm⟩
    have hn' : A'.length = n := by simpa using hn
    have ha : a.size ≤ 1000 := hA a (by simp)
    have w1 : IntKind.i64.wrap (((n + 1 : Nat) : Int) - 1) = (n : Int) := by
      rw [List.length_append] at hl
      rw [i64w (by omega) (by omega)]; omega
    have e1 : (A' ++ [a]) ++ x :: (B ++ rest) = A' ++ a :: x :: (B ++ rest) := by simp
    have e2 : A' ++ a :: x :: (B ++ rest) = (A' ++ [a]) ++ x :: (B ++ rest) := e1.symm
    have hlen : (A' ++ a :: x :: (B ++ rest)).length = n + 2 + (B ++ rest).length := by simp; omega
    have g1 : (A' ++ a :: x :: (B ++ rest)).getD (Int.toNat ((n + 1 : Nat) : Int)) ⟨#[]⟩ = x := by
      rw [Int.toNat_natCast, e2, getD_app (by simp [hn'])]
    have g0 : (A' ++ a :: x :: (B ++ rest)).getD (Int.toNat (n : Int)) ⟨#[]⟩ = a := by
      rw [Int.toNat_natCast, getD_app hn'.symm]
    have s1 : (A' ++ a :: x :: (B ++ rest)).set (Int.toNat ((n + 1 : Nat) : Int)) a = A' ++ a :: a :: (B ++ rest) := by
      rw [Int.toNat_natCast, e2, set_app (by simp [hn'])]
      simp
    have s0 : (A' ++ a :: a :: (B ++ rest)).set (Int.toNat (n : Int)) x = A' ++ x :: a :: (B ++ rest) := by
      rw [Int.toNat_natCast, set_app hn'.symm]
    rw [e1] at hl ⊢
    refine EvP.step (fun N => slices_insertionSortCmpFuncstring.l1.eq N _ _ _ _ _ _) ?_
    rw [w1]
    refine EvP.andK (Q := fun r => r.1.2.2.1 = decide (f a < f x) ∧ r.2 = (A' ++ a :: x :: (B ++ rest), ((k, ()), ()))) (EvP.pos (by omega) (EvP.chk2 (by omega) (by rw [hlen]; omega) (EvP.chk2 (by omega) (by rw [hlen]; omega) ?_))) ?_
    · rw [g0, g1]
      refine EvP.andK (cmpB hk x a hx ha) fun r hr => EvP.some ⟨hr.1, ?_⟩
      dsimp only
      rw [hr.2]
    · rintro ⟨⟨⟨⟩, ⟨⟨⟩, ⟨⟩⟩, c, ⟨⟩⟩, r⟩ ⟨h1, h2⟩
      dsimp only at h1 h2
      subst h1 h2
      dsimp only
      rw [g0, g1, s1, s0]
      refine EvP.ite (fun hlt => EvP.chk2 (by omega) (by rw [hlen]; omega) (EvP.chk2 (by omega) (by rw [hlen]; omega) (EvP.chk2 (by omega) (by rw [hlen]; omega) (EvP.chk2 (by omega) (by simp; omega) ?_)))) (fun hge => EvP.some ?_)
      · have hB' : ∀ b ∈ a :: B, f b < f x := fun b hb => by
          rcases List.mem_cons.1 hb with rfl | hb
          · exact hlt
          · exact hB b hb
        have := ins_l1 hk b2 i1 x hx rest n A' (a :: B) hn' (by simp at hl ⊢; omega) (fun y hy => hA y (by simp [hy])) (List.pairwise_append.1 hf).1 hB'
        have e3 : A' ++ a :: B = (A' ++ [a]) ++ B := by simp
        rw [e3] at this
        exact this
      · have hA' : ∀ y ∈ A' ++ [a], f x ≤ f y := fun y hy => by
          rcases List.mem_append.1 hy with hy | hy
          · have := (List.pairwise_append.1 hf).2.2 y hy a (by simp)
            omega
          · have : y = a := by simpa using hy
            subst this
            omega
        rw [ins_split f hA' hB]
        simp
theorem ins_l0 {f : ByteArray → Int} {k : ByteArray} (hk : ScI k f) (l : List ByteArray) (hl : l.length ≤ 1000) (hs : Small l) : ∀ (d i : Nat), i + d = l.length →
    EvP (fun N => slices_insertionSortCmpFuncstring.l0 N 0 (l.length : Int) (i : Int) (isort f (l.take i) ++ l.drop i) k) (· = ((), (isort f l, ((k, ()), ()))))
  | 0, i, h => by
    refine EvP.step (fun N => slices_insertionSortCmpFuncstring.l0.eq N _ _ _ _ _) (EvP.neg (by omega) (EvP.some ?_))
    rw [List.take_of_length_le (by omega), List.drop_of_length_le (by omega), List.append_nil]
  | d + 1, i, h => by
    have hi : i < l.length := by omega
    have hd : l.drop i = l[i] :: l.drop (i + 1) := List.drop_eq_getElem_cons hi
    have ht : l.take (i + 1) = l.take i ++ [l[i]] := by rw [List.take_add_one, List.getElem?_eq_getElem hi]; rfl
    have hlen : (isort f (l.take i)).length = i := by rw [isort_len, List.length_take]; omega
    have w1 : IntKind.i64.wrap ((i : Int) + 1) = ((i + 1 : Nat) : Int) := by rw [i64w (by omega) (by omega)]; omega
    refine EvP.step (fun N => slices_insertionSortCmpFuncstring.l0.eq N _ _ _ _ _) (EvP.pos (by omega) ?_)
    have h1 := ins_l1 hk (l.length : Int) (i : Int) l[i] (hs _ (List.getElem_mem hi)) (l.drop (i + 1)) i (isort f (l.take i)) [] hlen (by rw [List.length_append, hlen]; simp; omega)
      (fun y hy => hs y (List.mem_of_mem_take ((isort_perm f _).mem_iff.1 hy))) (isort_fall f _) (fun _ h => by cases h)
    rw [List.nil_append, ← hd, List.append_nil, ← isort_snoc, ← ht] at h1
    refine EvP.to h1 ?_
    dsimp only
    rw [w1]
    exact ins_l0 hk l hl hs d (i + 1) (by omega)
theorem insSort {f : ByteArray → Int} {k : ByteArray} (hk : ScI k f) (l : List ByteArray) (hl : l.length ≤ 1000) (hs : Small l) :
    EvP (fun N => slices_insertionSortCmpFuncstring N 0 (l.length : Int) l k) (· = ((), (isort f l, ((k, ()), ())))) := by
  refine EvP.of (fun N => slices_insertionSortCmpFuncstring.eq N _ _ _ _) (EvP.to (a := ((), (isort f l, ((k, ()), ())))) ?_ (EvP.some rfl))
  rw [show IntKind.i64.wrap (0 + 1) = ((1 : Nat) : Int) by decide]
  match l, hl, hs with
  | [], _, _ => exact EvP.step (fun N => slices_insertionSortCmpFuncstring.l0.eq N _ _ _ _ _) (EvP.neg (by decide) (EvP.some rfl))
  | x :: l, hl, hs => exact ins_l0 hk (x :: l) hl hs l.length 1 (by simp; omega)
theorem rankedI {f : ByteArray → Int} {k : ByteArray} (hk : ScI k f) (l : List ByteArray) (hl : l.length ≤ 12) (hs : Small l) : EvP (fun N => impl_ranked N l k) (· = (((), ()), (isort f l, ()))) := by
  have hm : (most : Nat) = 68719476736 := rfl
  refine EvP.of (fun N => impl_ranked.eq N _ _) (EvP.to (a := (((), ()), (l, ()))) (EvP.of (fun N => slices_Clonestring_string.eq N _) (EvP.chk1 (by rw [hm]; omega) (EvP.some rfl))) ?_)
  refine EvP.to (a := ((), (isort f l, ((k, ()), ())))) ?_ (EvP.some rfl)
  refine EvP.of (fun N => slices_SortStableFuncstring_string.eq N _ _) (EvP.to (a := ((), (isort f l, ((k, ()), ())))) ?_ (EvP.some rfl))
  refine EvP.of (fun N => slices_stableCmpFuncstring.eq N _ _ _) ?_
  refine EvP.to (a := ((((), (((), ()), (0, ()))), (l, ((k, ()), ()))))) (EvP.step (fun N => slices_stableCmpFuncstring.l0.eq N _ _ _ _ _) (EvP.neg (by (try dsimp only); omega) (EvP.some rfl))) ?_
  refine EvP.to (insSort hk l (by omega) hs) ?_
  exact EvP.to (a := ((), (isort f l, ((k, ()), ())))) (EvP.step (fun N => slices_stableCmpFuncstring.l1.eq N _ _ _ _) (EvP.neg (by (try dsimp only); omega) (EvP.some rfl))) (EvP.some rfl)
end Go.Proofs.YthkjjombaoffcaaGreatDoor.CFnRendezvous
