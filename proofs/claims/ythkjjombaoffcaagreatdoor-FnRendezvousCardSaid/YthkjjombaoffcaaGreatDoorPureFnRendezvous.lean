/- FnRendezvous. -/
import Derived.Test.YthkjjombaoffcaaGreatDoorQRnkPFnRendezvous
import Derived.Test.YthkjjombaoffcaaGreatDoorQRnkWFnRendezvous
set_option linter.unusedVariables false
set_option linter.unusedSimpArgs false
namespace Go.Proofs.YthkjjombaoffcaaGreatDoor.CFnRendezvous
open Go Go.Proofs Go.Proofs.YthkjjombaoffcaaGreatDoorPM Go.Proofs.YthkjjombaoffcaaGreatDoor.Q Go.Proofs.YthkjjombaoffcaaGreatDoor.GFnRendezvous

theorem backend_s {l : List Int} {a s b : Int} (hl : Bytes l) (h0 : 0 ≤ a) (h1 : a ≤ b) (hb : b ≤ 100000) :
    EvP (fun N => spec_l1Cur_backend N l a s) (fun r => r.1.1.size ≤ 100) := by
  refine EvP.of (fun N => spec_l1Cur_backend.eq N _ _ _) (EvP.andK (one_s (b := b) hl h0 h1 (by omega)) ?_)
  rintro u ⟨e1, e2, e3, -⟩
  refine EvP.sel (fun _ => ?_) (fun _ => ?_)
  · refine EvP.andK (of_s (b := b + 2) (P := fun x => x.size ≤ 100) (by decide) (by decide) e1 e2 e3 (by omega)) ?_
    rintro v ⟨g, -⟩
    exact EvP.some g
  · refine EvP.andK (of_s (b := b + 2) (P := fun x => x.size ≤ 100) (by decide) (by decide) e1 e2 e3 (by omega)) ?_
    rintro v ⟨g, -⟩
    exact EvP.some g
theorem drawDrop {l : List Int} (hl : Bytes l) : EvP (fun N => spec_DrawDropBackend N l) (fun r => r.1.2.1.size ≤ 100 ∧ r.2.1.length ≤ 13 ∧ Tiny r.2.1) := by
  refine EvP.of (fun N => spec_DrawDropBackend.eq N _) (EvP.andK (live_s (b := 0) hl (by omega) (by omega) (by omega)) ?_)
  rintro ⟨x, ⟨l', a', s', ⟨⟩⟩, p, ⟨⟩⟩ ⟨⟨e1, e2, e3⟩, e4, e5⟩
  dsimp only at e1 e2 e3 e4 e5 ⊢
  refine EvP.andK (Q := fun r => CuOk 1000 r.2.1 ∧ r.2.2.1 = p ∧ (r.1.2.2.1 = true → 0 < p.length)) ?_ ?_
  · refine EvP.ite (fun h => ?_) (fun h => EvP.some ⟨⟨e1, e2, by dsimp only; omega⟩, rfl, fun h => by cases h⟩)
    refine EvP.andK (one_s (b := 100) e1 e2 e3 (by omega)) ?_
    rintro u ⟨f1, f2, f3, -⟩
    exact EvP.some ⟨⟨f1, f2, by dsimp only; omega⟩, rfl, fun _ => by omega⟩
  · rintro ⟨⟨⟨⟩, ⟨⟩, c, ⟨⟩⟩, ⟨l', a', s', ⟨⟩⟩, p', ⟨⟩⟩ ⟨⟨e1, e2, e3⟩, h1, h2⟩
    dsimp only at e1 e2 e3 h1 h2 ⊢
    subst h1
    refine EvP.sel (fun hc => ?_) (fun hc => ?_)
    · have hpos := h2 hc
      refine EvP.andK (pick_s (b := 1000) (n := (p'.length : Int)) (m := 13) e1 e2 e3 (by omega) (by omega) (by omega)) ?_
      rintro u ⟨⟨p4, p5, p6, p7⟩, f1, f2, f3, -⟩
      refine EvP.chk2 p4 (p6 (by omega)) (EvP.some ⟨?_, e4, e5⟩)
      exact getD_all (P := fun x : ByteArray => x.size ≤ 100) e5 _ (by decide)
    · exact EvP.andK (backend_s (b := 1000) e1 e2 e3 (by omega)) fun r h => EvP.some ⟨h, e4, e5⟩

theorem head_filter {f : ByteArray → Int} {m : List ByteArray} {d a : ByteArray} {t : List ByteArray} (h : isort f m = d :: t) (hd : d ≠ a) : headOf f (without m a) = d := by
  unfold headOf without
  rw [← isort_filter, h, List.filter_cons, if_pos (by simp [hd])]
  rfl
theorem parts {l : List ByteArray} (a : ByteArray) (h : Rise l) : l.filter (fun x => sltB x a) ++ l.filter (fun x => !(sltB x a)) = l := by
  induction l with
  | nil => rfl
  | cons x l ih =>
    obtain ⟨h1, h2⟩ := List.pairwise_cons.1 h
    by_cases hx : sltB x a = true
    · rw [List.filter_cons, if_pos hx, List.filter_cons, if_neg (by simp [hx]), List.cons_append, ih h2]
    · have hall : ∀ y ∈ l, sltB y a = false := fun y hy => by
        rw [Bool.eq_false_iff]
        exact fun h3 => hx (slt_trans (h1 y hy) h3)
      rw [List.filter_cons, if_neg hx, List.filter_cons, if_pos (by simp [hx]), List.filter_eq_nil_iff.2 (fun y hy => by rw [hall y hy]; decide), List.nil_append, List.filter_eq_self.2 (fun y hy => by rw [hall y hy]; rfl)]
theorem without_not {l : List ByteArray} {a : ByteArray} (h : a ∉ l) : without l a = l := by
  unfold without
  refine List.filter_eq_self.2 fun x hx => ?_
  simp only [decide_eq_true_eq]
  rintro rfl
  exact h hx
theorem without_with {l : List ByteArray} {a : ByteArray} (h : Rise l) (ha : a ∉ l) : without (withT l a) a = l := by
  have hm : ∀ p : ByteArray → Bool, a ∉ l.filter p := fun p hp => ha (List.mem_filter.1 hp).1
  have h1 := without_not (hm fun x => sltB x a)
  have h2 := without_not (hm fun x => !(sltB x a))
  unfold without at h1 h2
  unfold withT without
  rw [List.filter_append, List.filter_cons, if_neg (by simp), h1, h2, parts a h]
theorem without_nin (l : List ByteArray) (a : ByteArray) : a ∉ without l a := fun h => by
  have := (List.mem_filter.1 h).2
  simp at this
theorem head_mem (f : ByteArray → Int) {l : List ByteArray} (h : 0 < l.length) : headOf f l ∈ l := by
  obtain ⟨t, e⟩ := head_ex f h
  exact (isort_perm f l).mem_iff.1 (by rw [e]; exact List.mem_cons_self)
def dropX (l : List ByteArray) (a : ByteArray) : List ByteArray := if okD l a = true then without l a else []
theorem dropF_eq (l : List ByteArray) (a : ByteArray) : dropF l a = (((), (okD l a, ())), (dropX l a, ())) := by
  unfold dropF dropX noR
  cases okD l a <;> rfl
def addX (l : List ByteArray) (a : ByteArray) : List ByteArray := if okA l a = true then withT l a else []
theorem addF_eq (l : List ByteArray) (a : ByteArray) : addF l a = (((), (okA l a, ())), (addX l a, ())) := by
  unfold addF addX noR
  cases okA l a <;> rfl
set_option maxHeartbeats 1000000 in
theorem rdv_ok {f : ByteArray → Int} {k : ByteArray} (hk : ScI k f) (hk' : ScS k f) (hp : ∀ x, 0 ≤ f x) {l m : List ByteArray} {a : ByteArray} (hl : l.length ≤ 1000) (hs : Small l) (ha : a.size ≤ 1000) {G o : List Int} (hG : G.length + o.length ≤ 1048576)
    (hd1 : EvP (fun N => spec_DrawDropBackend N G) (· = (((), (a, ())), (l, ())))) (hd2 : EvP (fun N => spec_DrawPickBackend N o) (· = (((), (k, ())), (m, ())))) : EvP (fun N => laws_FnRendezvous N G o) (· = ((true, ()), ())) := by
  have x1 := DropA (l := l) (by omega) hs a
  have x2 := DropB (l := l) (by omega) hs a
  have x3 := AddA (l := l) (by omega) hs a ha
  have x4 := AddB (l := l) (by omega) hs a ha
  have x5 := PickA hk (l := l) (by omega) hs
  have x6 := PickB hk' hp (l := l) (by omega) hs
  rw [dropF_eq] at x1 x2
  rw [addF_eq] at x3 x4
  have hXl : (dropX l a).length ≤ 1000 := by
    unfold dropX
    split
    · exact Nat.le_trans (List.length_filter_le _ _) hl
    · exact Nat.zero_le _
  have hXs : Small (dropX l a) := by
    unfold dropX
    split
    · exact fun y hy => hs y (List.mem_filter.1 hy).1
    · exact fun y hy => by cases hy
  have x7 := same_ok (dropX l a) (by omega)
  obtain ⟨X, hX⟩ : ∃ X, X = dropX l a := ⟨_, rfl⟩
  rw [← hX] at x1 x2 x7 hXl hXs
  refine EvP.of (fun N => laws_FnRendezvous.eq N _ _) (EvP.neg (by rw [i64w (by omega) (by omega)]; omega) (EvP.to hd1 (EvP.to hd2 (EvP.to x1 (EvP.to x2 ?_)))))
  dsimp only
  refine EvP.to (a := ((((), ((), (false, ()))), (l, (m, (X, (X, ()))))))) (EvP.no (by simp) (EvP.to x7 (EvP.some rfl))) (EvP.no rfl (EvP.ite (fun _ => EvP.some rfl) (fun hk0 => ?_)))
  have hk1 : (k.size : Int) ≤ 100 := by omega
  refine EvP.to x5 (EvP.to x6 ?_)
  dsimp only
  refine EvP.to (a := ((((), ((), (false, ()))), (l, (m, (X, (X, ()))))))) (EvP.no (by simp) (EvP.some (by simp))) (EvP.no rfl ?_)
  dsimp only
  refine EvP.to (a := .inr ((((), ()), (l, (m, (X, (X, ()))))))) ?_ (EvP.inr ?_)
  · -- one goes
    refine EvP.to (a := ((((), ((), (okD l a && decide (0 < X.length), ()))), (l, (m, (X, (X, ()))))))) (EvP.sel (fun e => EvP.some ?_) (fun e => EvP.some ?_)) (EvP.sel (fun e => ?_) (fun e => EvP.some rfl))
    · have e : okD l a = true := e
      rw [e, Bool.true_and, dec_eq (p := (0 : Int) < (X.length : Int)) (q := 0 < X.length) (fun h => by omega) (fun h => by omega)]
    · have e : okD l a = false := e
      rw [e]
      rfl
    · have e : okD l a = true ∧ 0 < X.length := by simpa using e
      obtain ⟨e1, e2⟩ := e
      obtain ⟨hg, hal⟩ := (okD_iff l a).1 e1
      have hX : X = without l a := by rw [hX, dropX, if_pos e1]
      have hgX : glB X = true := by rw [hX]; exact without_good hg a
      have hl12 := ((glB_iff l).1 hg).2.2
      have hX12 := ((glB_iff X).1 hgX).2.2
      have hlp : 0 < l.length := List.length_pos_of_mem hal
      have pl : pickF f l k = ((headOf f l, (true, ())), ()) := if_pos (by simp [okP, okR, hg, hk1, hlp])
      have pX : pickF f X k = ((headOf f X, (true, ())), ()) := if_pos (by simp [okP, okR, hgX, hk1, e2])
      have x8 := PickA hk (l := X) (by omega) hXs
      rw [pX] at x8
      refine EvP.to x8 (EvP.to (Moved hk hk1 hl12 hX12 hs hXs hg hgX hlp e2) ?_)
      rw [pl]
      dsimp only
      obtain ⟨t, ht⟩ := head_ex f hlp
      by_cases hh : headOf f l = a
      · have hne : ¬ headOf f l = headOf f X := fun h => by
          have := head_mem f e2
          rw [← h, hh, hX] at this
          exact without_nin l a this
        rw [if_neg hne]
        refine EvP.to (a := ((((), (false, ())), (l, (m, (X, (X, ([k], ()))))))) ) (EvP.no rfl (EvP.no rfl (EvP.nneg hh (EvP.some ?_)))) (EvP.no rfl (EvP.some rfl))
        rw [decide_eq_true hh]
        rfl
      · have heq : headOf f X = headOf f l := by rw [hX]; exact head_filter ht hh
        rw [if_pos heq.symm]
        refine EvP.to (a := ((((), (false, ())), (l, (m, (X, (X, ([], ()))))))) ) (EvP.no rfl (EvP.no rfl (EvP.npos hh (EvP.nneg heq (EvP.some ?_))))) (EvP.no rfl (EvP.some rfl))
        rw [decide_eq_false hh]
        rfl
  · -- one comes
    dsimp only
    refine EvP.to x3 (EvP.to x4 (EvP.no (by simp) ?_))
    dsimp only
    unfold addX
    by_cases hok : okA l a = true
    · rw [hok, if_pos rfl]
      refine EvP.no rfl ?_
      have hgy := with_good hok
      have h : glB l = true ∧ gb a = true ∧ a ∉ l ∧ l.length < 12 := by simpa [okA, hasB_no] using hok
      have hys : Small (withT l a) := fun y hy => by
        rcases with_mem.1 hy with rfl | hy
        · exact ha
        · exact hs y hy
      have hyl : (withT l a).length ≤ 1000000 := by rw [with_len]; omega
      have hyp : 0 < (withT l a).length := by rw [with_len]; omega
      have x9 := PickA hk hyl hys
      rw [show pickF f (withT l a) k = ((headOf f (withT l a), (true, ())), ()) from if_pos (by simp [okP, okR, hgy, hk1, hyp])] at x9
      refine EvP.to x9 (EvP.yes rfl (EvP.ite (fun _ => EvP.some rfl) (fun hne => EvP.some ?_)))
      have hne : ¬ headOf f (withT l a) = a := hne
      obtain ⟨t, ht⟩ := head_ex f hyp
      have hh := head_filter ht hne
      rw [without_with ((glB_iff l).1 h.1).2.1 h.2.2.1] at hh
      have hlp : 0 < l.length := by
        have := head_mem f hyp
        rcases with_mem.1 this with h1 | h1
        · exact absurd h1 hne
        · exact List.length_pos_of_mem h1
      rw [show pickF f l k = ((headOf f l, (true, ())), ()) from if_pos (by simp [okP, okR, h.1, hk1, hlp])]
      dsimp only
      rw [decide_eq_true hh.symm]
    · have hok : okA l a = false := by simpa using hok
      rw [hok]
      exact EvP.yes rfl (EvP.some rfl)
end Go.Proofs.YthkjjombaoffcaaGreatDoor.CFnRendezvous
namespace Go.Proofs.YthkjjombaoffcaaGreatDoor.Pure
open Go Go.Proofs Go.Proofs.YthkjjombaoffcaaGreatDoorPM Go.Proofs.YthkjjombaoffcaaGreatDoor.Q Go.Proofs.YthkjjombaoffcaaGreatDoor.GFnRendezvous Go.Proofs.YthkjjombaoffcaaGreatDoor.CFnRendezvous
theorem FnRendezvous (a0 : List Int) (h0 : ∀ n ∈ a0, 0 ≤ n ∧ n ≤ 255) (s0 : a0.length ≤ 140737488351232) (a1 : List Int) (h1 : ∀ n ∈ a1, 0 ≤ n ∧ n ≤ 255) (s1 : a1.length ≤ 140737488351232) : ∃ N, laws_FnRendezvous N a0 a1 = some ((true, ()), ()) := by
  by_cases hbig : 1048576 < a0.length + a1.length
  · exact EvP.fin (EvP.of (fun N => laws_FnRendezvous.eq N _ _) (EvP.pos (by rw [i64w (by omega) (by omega)]; omega) (EvP.some rfl)))
  · obtain ⟨⟨⟨⟨⟩, a, ⟨⟩⟩, l, ⟨⟩⟩, hd, g1, g2, g3⟩ := drawDrop (l := a0) h0
    obtain ⟨⟨⟨⟨⟩, k, ⟨⟩⟩, m, ⟨⟩⟩, hd2, g4, g5, g6⟩ := drawPick (l := a1) h1
    dsimp only at g1 g2 g3 g4
    exact EvP.fin (rdv_ok (scI k (by omega)) (scS k (by omega)) (fun x => (sc_range k x).1) (l := l) (m := m) (a := a) (by omega) (fun x hx => by have := g3 x hx; omega) (by omega) (by omega) ⟨_, hd, rfl⟩ ⟨_, hd2, rfl⟩)
end Go.Proofs.YthkjjombaoffcaaGreatDoor.Pure
