/- FnRanked. -/
import Derived.Test.YthkjjombaoffcaaGreatDoorQRnkDFnRanked
import Derived.Test.YthkjjombaoffcaaGreatDoorQRnkWFnRanked
set_option linter.unusedVariables false
set_option linter.unusedSimpArgs false
namespace Go.Proofs.YthkjjombaoffcaaGreatDoor.CFnRanked
open Go Go.Proofs Go.Proofs.YthkjjombaoffcaaGreatDoorPM Go.Proofs.YthkjjombaoffcaaGreatDoor.Q Go.Proofs.YthkjjombaoffcaaGreatDoor.GFnRanked

theorem fall_at {f : ByteArray → Int} {l : List ByteArray} (h : Fall f l) {i j : Nat} (hij : i < j) (hj : j < l.length) : f (l.getD j ⟨#[]⟩) ≤ f (l.getD i ⟨#[]⟩) := by
  have := List.pairwise_iff_getElem.1 h i j (by omega) hj hij
  rw [List.getD_eq_getElem?_getD, List.getD_eq_getElem?_getD, List.getElem?_eq_getElem hj, List.getElem?_eq_getElem (show i < l.length by omega)]
  exact this
theorem getD_mem {l : List ByteArray} {i : Nat} (h : i < l.length) : l.getD i ⟨#[]⟩ ∈ l := by
  rw [List.getD_eq_getElem?_getD, List.getElem?_eq_getElem h]
  exact List.getElem_mem h
theorem down_l {f : ByteArray → Int} {k : ByteArray} (hk : ScI k f) (hk1 : (k.size : Int) ≤ 100) (o1 : ByteArray) (p r q : List ByteArray) (hl : r.length ≤ 1000) (hs : Small r) (hg : ∀ x ∈ r, gb x = true) (hf : Fall f r) : ∀ (d i : Nat), i + d = r.length → 1 ≤ i →
    EvP (fun N => laws_FnRanked.l0 N k o1 (i : Int) p r q) (· = .inr ((((), ((), ())), (p, (r, (q, ()))))))
  | 0, i, h, h1 => EvP.step (fun N => laws_FnRanked.l0.eq N _ _ _ _ _ _) (EvP.neg (by omega) (EvP.some rfl))
  | d + 1, i, h, h1 => by
    have w1 : IntKind.i64.wrap ((i : Int) + 1) = ((i + 1 : Nat) : Int) := by rw [i64w (by omega) (by omega)]; omega
    have w0 : IntKind.i64.wrap ((i : Int) - 1) = ((i - 1 : Nat) : Int) := by rw [i64w (by omega) (by omega)]; omega
    have m1 := getD_mem (l := r) (i := i) (by omega)
    have m0 := getD_mem (l := r) (i := i - 1) (by omega)
    have hle := fall_at hf (show i - 1 < i by omega) (by omega)
    refine EvP.step (fun N => laws_FnRanked.l0.eq N _ _ _ _ _ _) (EvP.pos (by omega) ?_)
    rw [w0, w1]
    refine EvP.chk2 (by omega) (by omega) ?_
    rw [Int.toNat_natCast]
    refine EvP.to (ScoreI hk hk1 (hs _ m0) (hg _ m0)) (EvP.chk2 (by omega) (by omega) ?_)
    rw [Int.toNat_natCast]
    refine EvP.to (ScoreI hk hk1 (hs _ m1) (hg _ m1)) (EvP.to (a := ((((), ((), (false, ()))), (p, (r, (q, ())))))) (EvP.no rfl (EvP.no rfl (EvP.some ?_))) (EvP.no rfl ?_))
    · dsimp only
      rw [decide_eq_false (by omega)]
    · exact down_l hk hk1 o1 p r q hl hs hg hf d (i + 1) (by omega) (by omega)
set_option maxHeartbeats 1000000 in
theorem ranked_ok {f : ByteArray → Int} {k : ByteArray} (hk : ScI k f) (hk' : ScS k f) {l : List ByteArray} (hl : l.length ≤ 1000) (hs : Small l) {a0 : List Int} (h0 : a0.length ≤ 1048576)
    {r0 : (Unit × (ByteArray × Unit)) × (List ByteArray × Unit)} (hr0 : r0 = (((), (k, ())), (l, ()))) (hd : EvP (fun N => spec_DrawRankBackends N a0) (· = r0)) : EvP (fun N => laws_FnRanked N a0) (· = ((true, ()), ())) := by
  subst hr0
  have h1 := RankI hk (l := l) (by omega) hs
  have h2 := RankS hk' (l := l) (by omega) hs
  refine EvP.of (fun N => laws_FnRanked.eq N _) (EvP.neg (by omega) (EvP.to hd (EvP.to h1 (EvP.to h2 ?_))))
  dsimp only
  have hsl : (if okR l k = true then isort f l else []).length ≤ 1000000 := by
    split
    · rw [isort_len]; omega
    · exact Nat.zero_le _
  have hsame := same_ok (if okR l k = true then isort f l else []) hsl
  generalize hR : (if okR l k = true then isort f l else []) = R at hsame
  refine EvP.to (a := ((((), ((), (false, ()))), (l, (R, (R, ())))))) (EvP.no (by simp) (EvP.to hsame (EvP.some rfl))) (EvP.no rfl ?_)
  by_cases hok : okR l k = true
  · rw [if_pos hok] at hR
    subst hR
    rw [hok]
    have hg : glB l = true ∧ (k.size : Int) ≤ 100 := by simpa [okR] using hok
    by_cases hz : l = []
    · subst hz
      exact EvP.to (a := ((((), ((), (true, ()))), (([] : List ByteArray), (isort f [], (isort f [], ())))))) (EvP.no rfl (EvP.some rfl)) (EvP.yes rfl (EvP.some rfl))
    · have hpos : 0 < l.length := List.length_pos_iff.2 hz
      refine EvP.to (a := ((((), ((), (false, ()))), (l, (isort f l, (isort f l, ())))))) (EvP.no rfl (EvP.some ?_)) (EvP.no rfl ?_)
      · dsimp only
        rw [decide_eq_false (by omega)]
      dsimp only
      have hperm := isort_perm f l
      have hlen := isort_len f l
      have hfall := isort_fall f l
      obtain ⟨a, t, hat⟩ : ∃ a t, isort f l = a :: t := by
        cases h : isort f l with
        | nil => rw [h] at hlen; simp at hlen; omega
        | cons a t => exact ⟨a, t, rfl⟩
      have ha : a ∈ l := hperm.mem_iff.1 (by rw [hat]; exact List.mem_cons_self)
      have hrise := ((glB_iff l).1 hg.1).2.1
      have hgb := ((glB_iff l).1 hg.1).1
      have hmem : ∀ y ∈ a :: t, y ∈ l := fun y hy => hperm.mem_iff.1 (by rw [hat]; exact hy)
      have htail := isort_tail f hrise.nodup hat
      refine EvP.to (PickI hk (by omega) hs hok hat) ?_
      rw [hat] at hlen hfall ⊢
      refine EvP.to (a := ((((), ((), (false, ()))), (l, (a :: t, (a :: t, ())))))) (EvP.no rfl (EvP.nneg (by omega) (EvP.chk1 (by simp) (EvP.some ?_)))) (EvP.no rfl ?_)
      · simp
      dsimp only
      refine EvP.to (down_l hk hg.2 a l (a :: t) (a :: t) (by omega) (fun y hy => hs y (hmem y hy)) (fun y hy => hgb y (hmem y hy)) hfall t.length 1 (by simp; omega) (Nat.le_refl _)) (EvP.inr ?_)
      dsimp only
      match t, hlen, htail with
      | [], hlen, htail => exact EvP.pos (by simp) (EvP.some rfl)
      | b :: t, hlen, htail =>
        refine EvP.neg (by simp; omega) (EvP.to (DropI (by omega) hs hg.1 ha) ?_)
        have hws : Small (without l a) := fun y hy => hs y (List.mem_filter.1 hy).1
        have hwl : (without l a).length ≤ 1000 := Nat.le_trans (List.length_filter_le _ _) hl
        refine EvP.to (PickI hk (by omega) hws (by simp [okR, without_good hg.1 a, hg.2]) htail) ?_
        dsimp only
        exact EvP.yes rfl (EvP.yes rfl (EvP.chk1 (by simp; omega) (EvP.some (by simp))))
  · rw [if_neg hok] at hR
    subst hR
    have hok : okR l k = false := by simpa using hok
    rw [hok]
    exact EvP.to (a := ((((), ((), (true, ()))), (l, (([] : List ByteArray), (([] : List ByteArray), ())))))) (EvP.yes rfl (EvP.some rfl)) (EvP.yes rfl (EvP.some rfl))
end Go.Proofs.YthkjjombaoffcaaGreatDoor.CFnRanked
namespace Go.Proofs.YthkjjombaoffcaaGreatDoor.Pure
open Go Go.Proofs Go.Proofs.YthkjjombaoffcaaGreatDoorPM Go.Proofs.YthkjjombaoffcaaGreatDoor.Q Go.Proofs.YthkjjombaoffcaaGreatDoor.GFnRanked Go.Proofs.YthkjjombaoffcaaGreatDoor.CFnRanked
theorem FnRanked (a0 : List Int) (h0 : ∀ n ∈ a0, 0 ≤ n ∧ n ≤ 255) (s0 : a0.length ≤ 140737488351232) : ∃ N, laws_FnRanked N a0 = some ((true, ()), ()) := by
  by_cases hbig : 1048576 < a0.length
  · exact EvP.fin (EvP.of (fun N => laws_FnRanked.eq N _) (EvP.pos (by omega) (EvP.some rfl)))
  · obtain ⟨⟨⟨⟨⟩, k, ⟨⟩⟩, l, ⟨⟩⟩, hd, h1, h2, h3⟩ := drawRank (l := a0) h0
    dsimp only at h1 h2 h3
    exact EvP.fin (ranked_ok (scI k (by omega)) (scS k (by omega)) (by omega) (fun x hx => by have := h3 x hx; omega) (by omega) rfl ⟨_, hd, rfl⟩)
end Go.Proofs.YthkjjombaoffcaaGreatDoor.Pure
