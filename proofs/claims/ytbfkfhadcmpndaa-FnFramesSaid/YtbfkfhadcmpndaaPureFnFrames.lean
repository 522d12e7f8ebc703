/- FnFrames: both packages write the same bytes of a frame and of a row of frames, and the program reads them back. -/
import Derived.Test.YtbfkfhadcmpndaaQFrameZFnFrames
import Derived.Test.YtbfkfhadcmpndaaSFnFrames
set_option linter.unusedVariables false
set_option linter.unusedSimpArgs false
namespace Go.Proofs.Ytbfkfhadcmpndaa.Pure
open Go Go.Proofs Go.Proofs.YtbfkfhadcmpndaaPM Go.Proofs.Ytbfkfhadcmpndaa.Q Go.Proofs.Ytbfkfhadcmpndaa.CFnFrames Go.Proofs.Ytbfkfhadcmpndaa.GFnFrames

theorem DrawFrames_l : ∀ (n : Nat) (l : List Int) (a s : Int) (p : List FrT), (∀ y ∈ l, 0 ≤ y ∧ y ≤ 255) → 0 ≤ a → a + 1000 * (n : Int) ≤ 1000000 → n + p.length ≤ 41 → (∀ f ∈ p, FrP f) →
    EvP (fun N => spec_DrawFramesBytes.l0 N (n : Int) l a s p) (fun z => z.2.2.1.length ≤ 41 ∧ ∀ f ∈ z.2.2.1, FrP f) := by
  intro n
  induction n with
  | zero =>
    intro l a s p hl h0 h1 hp hf
    exact EvP.step (fun N => spec_DrawFramesBytes.l0.eq N _ _ _ _ _) (EvP.neg (by omega) (EvP.some ⟨by dsimp only; omega, hf⟩))
  | succ n ih =>
    intro l a s p hl h0 h1 hp hf
    refine EvP.step (fun N => spec_DrawFramesBytes.l0.eq N _ _ _ _ _) (EvP.pos (by omega) ?_)
    rw [show IntKind.i64.wrap (((n + 1 : Nat) : Int) - 1) = (n : Int) by rw [i64w (by omega) (by omega)]; omega]
    refine EvP.andK (Q := fun j => (∀ y ∈ j.2.1.1, 0 ≤ y ∧ y ≤ 255) ∧ 0 ≤ j.2.1.2.1 ∧ j.2.1.2.1 ≤ a + 1000 ∧ j.2.2.1.length ≤ p.length + 1 ∧ ∀ f ∈ j.2.2.1, FrP f) ?_ ?_
    · refine EvP.andK (spec_l1Cur_frame_2_s (b := a) hl h0 (Int.le_refl _) (by omega)) ?_
      rintro ⟨⟨⟨k, fa, fb, fc, fin, d, r, ⟨⟩⟩, ⟨⟩⟩, ⟨l', a', s', ⟨⟩⟩, ⟨⟩⟩ ⟨q1, q2, q3, q4, q5, q6, q7, q8, q9, q10, q11, q12, q13, -⟩
      dsimp only at q1 q2 q3 q4 q5 q6 q7 q8 q9 q10 q11 q12 q13 ⊢
      refine EvP.andK (Q := fun j => ((∀ y ∈ j.2.1.1, 0 ≤ y ∧ y ≤ 255) ∧ 0 ≤ j.2.1.2.1 ∧ j.2.1.2.1 ≤ a + 1000) ∧ j.2.2.1 = p ∧ j.2.2.2.1 = mkF k fa fb fc fin d r) ?_ ?_
      · refine EvP.to (Good_spec _ _ _ _ _ _ _ (by omega)) (EvP.sel (fun h => EvP.some ⟨⟨q11, q12, by dsimp only; omega⟩, rfl, rfl⟩) (fun h => ?_))
        refine EvP.andK (one_s (b := a + 464) q11 q12 q13 (by omega)) ?_
        rintro ⟨⟨x, ⟨⟩⟩, ⟨l2, a2, s2, ⟨⟩⟩, ⟨⟩⟩ ⟨w1, w2, w3, -⟩
        dsimp only at w1 w2 w3 ⊢
        exact EvP.some ⟨⟨w1, w2, by dsimp only; omega⟩, rfl, rfl⟩
      · rintro ⟨j1, ⟨l2, a2, s2, ⟨⟩⟩, P, F, ⟨⟩⟩ ⟨⟨w1, w2, w3⟩, w4, w5⟩
        dsimp only at w1 w2 w3 w4 w5 ⊢
        subst w4 w5
        refine EvP.sel (fun h => EvP.chk1 (most_ok (by omega)) (EvP.some ⟨w1, w2, w3, ?_, ?_⟩)) (fun h => EvP.some ⟨w1, w2, w3, by dsimp only; omega, hf⟩)
        · simp
        · intro f hm
          rcases List.mem_append.1 hm with hm | hm
          · exact hf f hm
          · obtain rfl := List.mem_singleton.1 hm
            exact ⟨⟨by show -9223372036854775808 ≤ k; omega, by show k ≤ 9223372036854775807; omega⟩, by show (r.length : Int) ≤ 1000; omega⟩
    · rintro ⟨j1, ⟨l2, a2, s2, ⟨⟩⟩, P, ⟨⟩⟩ ⟨w1, w2, w3, w4, w5⟩
      dsimp only at w1 w2 w3 w4 w5 ⊢
      exact ih l2 a2 s2 P w1 w2 (by omega) (by omega) w5
theorem DrawFrames_ok {code : List Int} (h0 : ∀ y ∈ code, 0 ≤ y ∧ y ≤ 255) : EvP (fun N => spec_DrawFramesBytes N code) (fun z => z.2.1.length ≤ 41 ∧ ∀ f ∈ z.2.1, FrP f) := by
  refine EvP.of (fun N => spec_DrawFramesBytes.eq N _) ?_
  refine EvP.andK (pick_s (b := 0) (n := 6) (m := 5) h0 (by omega) (by omega) (by omega) (by omega) (by omega)) ?_
  rintro ⟨⟨x, ⟨⟩⟩, ⟨l1, a1, s1, ⟨⟩⟩, ⟨⟩⟩ ⟨⟨q1, q2, q3, q4⟩, q5, q6, q7, -⟩
  dsimp only at q1 q2 q3 q4 q5 q6 q7 ⊢
  refine EvP.andK (Q := fun j => (0 ≤ j.1.2.1 ∧ j.1.2.1 ≤ 41) ∧ (∀ y ∈ j.2.1.1, 0 ≤ y ∧ y ≤ 255) ∧ 0 ≤ j.2.1.2.1 ∧ j.2.1.2.1 ≤ 1000) ?_ ?_
  · refine EvP.andK (one_s (b := 0 + 2) q5 q6 q7 (by omega)) ?_
    rintro ⟨⟨y, ⟨⟩⟩, ⟨l2, a2, s2, ⟨⟩⟩, ⟨⟩⟩ ⟨w1, w2, w3, -⟩
    dsimp only at w1 w2 w3 ⊢
    refine EvP.sel (fun h => ?_) (fun h => EvP.some ⟨⟨by dsimp only; omega, by dsimp only; omega⟩, w1, w2, by dsimp only; omega⟩)
    refine EvP.andK (pick_s (b := 0 + 2 + 2) (n := 2) (m := 1) w1 w2 w3 (by omega) (by omega) (by omega)) ?_
    rintro ⟨⟨z, ⟨⟩⟩, ⟨l3, a3, s3, ⟨⟩⟩, ⟨⟩⟩ ⟨⟨v1, v2, v3, v4⟩, v5, v6, v7, -⟩
    dsimp only at v1 v2 v3 v4 v5 v6 v7 ⊢
    refine EvP.some ⟨?_, v5, v6, by dsimp only; omega⟩
    dsimp only
    rw [i64w (by omega) (by omega)]
    omega
  · rintro ⟨⟨⟨⟩, n, ⟨⟩⟩, ⟨l2, a2, s2, ⟨⟩⟩, ⟨⟩⟩ ⟨⟨w0, w1⟩, w2, w3, w4⟩
    dsimp only at w0 w1 w2 w3 w4 ⊢
    obtain ⟨m, rfl⟩ := Int.eq_ofNat_of_zero_le w0
    refine EvP.andK (DrawFrames_l m l2 a2 s2 [] w2 w3 (by omega) (by simp; omega) (fun f hf => by cases hf)) ?_
    intro z hz
    exact EvP.some hz
theorem sameRanges_l : ∀ (n : Nat) (r : List (Int × Int)) (i : Int), 0 ≤ i → i + (n : Int) = (r.length : Int) → (r.length : Int) ≤ 1000000 → EvP (fun N => laws_sameRanges.l0 N r r (r.length : Int) i) (· = .inr ((), ())) := by
  intro n
  induction n with
  | zero => intro r i h0 h1 h2; exact EvP.step (fun N => laws_sameRanges.l0.eq N _ _ _ _) (EvP.neg (by omega) (EvP.some rfl))
  | succ n ih =>
    intro r i h0 h1 h2
    refine EvP.step (fun N => laws_sameRanges.l0.eq N _ _ _ _) (EvP.pos (by omega) (EvP.chk2 h0 (by omega) (EvP.chk2 h0 (by omega) (EvP.no ?_ ?_))))
    · simp
    · rw [i64w (n := i + 1) (by omega) (by omega)]
      exact ih r (i + 1) (by omega) (by omega) h2
theorem sameRanges_ok (r : List (Int × Int)) (h : (r.length : Int) ≤ 1000000) : EvP (fun N => laws_sameRanges N r r) (· = ((true, ()), ())) :=
  EvP.of (fun N => laws_sameRanges.eq N _ _) (EvP.nneg rfl (EvP.to (sameRanges_l r.length r 0 (by omega) (by omega) h) (EvP.inr (EvP.some rfl))))
theorem sameFrames_ok (k a b c : Int) (fin : Bool) (d : ByteArray) (r : List (Int × Int)) (h : (r.length : Int) ≤ 1000000) : EvP (fun N => laws_sameFrames N k a b c fin d r k a b c fin d r) (· = ((true, ()), ())) :=
  EvP.of (fun N => laws_sameFrames.eq N _ _ _ _ _ _ _ _ _ _ _ _ _ _) (EvP.pos rfl (EvP.pos rfl (EvP.pos rfl (EvP.pos rfl (EvP.yes (by simp) (EvP.pos rfl (EvP.to (sameRanges_ok r h) (EvP.some rfl))))))))
theorem Frame_impl {k : Int} (hk : -9223372036854775808 ≤ k ∧ k ≤ 9223372036854775807) (a b c : Int) (fin : Bool) (d : ByteArray) (r : List (Int × Int)) (hr : (r.length : Int) ≤ 1000) :
    EvP (fun N => impl_FrameBytes N k a b c fin d r) (· = if goodB k a b c fin d r = true then ((fb k a b c fin d r, (true, ())), ()) else ((nilS, (false, ())), ())) := by
  refine EvP.of (fun N => impl_FrameBytes.eq N _ _ _ _ _ _ _) (EvP.to (Good_impl hk a b c fin d r (by omega)) (selN (fun h => EvP.some ?_) (fun h => EvP.andK (bytes_impl h) ?_)))
  · have h : goodB k a b c fin d r = false := h
    rw [h]; rfl
  · rintro z ⟨z1, _⟩
    have h : goodB k a b c fin d r = true := h
    exact EvP.some (by rw [h, z1]; rfl)
theorem Frame_spec (k a b c : Int) (fin : Bool) (d : ByteArray) (r : List (Int × Int)) (hr : (r.length : Int) ≤ 1000) :
    EvP (fun N => spec_FrameBytes N k a b c fin d r) (· = if goodB k a b c fin d r = true then ((fb k a b c fin d r, (true, ())), ()) else ((nilS, (false, ())), ())) := by
  refine EvP.of (fun N => spec_FrameBytes.eq N _ _ _ _ _ _ _) (EvP.to (Good_spec k a b c fin d r (by omega)) (selN (fun h => EvP.some ?_) (fun h => EvP.andK (bytes_spec h) ?_)))
  · have h : goodB k a b c fin d r = false := h
    rw [h]; rfl
  · intro z z1
    have h : goodB k a b c fin d r = true := h
    exact EvP.some (by rw [h, z1]; rfl)
abbrev LT := (Bool × Unit) × (List (Int × Int) × ((Int × (Int × (Int × (Int × (Bool × (ByteArray × (Unit × Unit))))))) × (List FrT × (List FrT × Unit))))
theorem law_l : ∀ (n : Nat) (l : List FrT) (i : Int), 0 ≤ i → i + (n : Int) = (l.length : Int) → l.length ≤ 1000 → (∀ f ∈ l, FrP f) → ∀ (p0 : List (Int × Int)) (a b c d : Int) (e : Bool) (g : ByteArray),
    EvP (fun N => laws_FnFrames.l0 N (l.length : Int) i p0 a b c d e g l l) (fun r => ∃ x, r = .inr x) := by
  intro n
  induction n with
  | zero => intro l i h0 h1 h2 hf p0 a b c d e g; exact EvP.step (fun N => laws_FnFrames.l0.eq N _ _ _ _ _ _ _ _ _ _ _) (EvP.neg (by omega) (EvP.some ⟨_, rfl⟩))
  | succ n ih =>
    intro l i h0 h1 h2 hf p0 a b c d e g
    refine EvP.step (fun N => laws_FnFrames.l0.eq N _ _ _ _ _ _ _ _ _ _ _) (EvP.pos (by omega) (EvP.chk2 h0 (by omega) (EvP.chk2 h0 (by omega) ?_)))
    have hm : rdS FSh l (Int.toNat i) ∈ l := by
      unfold rdS
      rw [List.getD_eq_getElem?_getD, List.getElem?_eq_getElem (by omega : i.toNat < l.length)]
      exact List.getElem_mem _
    obtain ⟨_, hr⟩ := hf _ hm
    refine EvP.to (sameFrames_ok _ _ _ _ _ _ _ (Int.le_trans hr (by decide))) (EvP.no rfl ?_)
    rw [i64w (n := i + 1) (by omega) (by omega)]
    exact ih l (i + 1) (by omega) (by omega) h2 hf p0 a b c d e g
theorem FnFrames (a0 : List Int) (h0 : ∀ n ∈ a0, 0 ≤ n ∧ n ≤ 255) (s0 : a0.length ≤ 140737488351232) (a1 : List Int) (h1 : ∀ n ∈ a1, 0 ≤ n ∧ n ≤ 255) (s1 : a1.length ≤ 140737488351232) : ∃ N, laws_FnFrames N a0 a1 = some ((true, ()), ()) := by
  refine EvP.fin (EvP.of (fun k => laws_FnFrames.eq k _ _) ?_)
  refine EvP.ite (fun _ => EvP.some rfl) (fun _ => ?_)
  refine EvP.andK (spec_DrawFrameBytes_s h0) ?_
  rintro ⟨⟨⟨k, a, b, c, fin, d, ⟨⟩, ⟨⟩⟩, ⟨⟩⟩, r, ⟨⟩⟩ ⟨q1, q2, q3, q4, q5, q6, q7, q8, q9, q10, -⟩
  dsimp only at q1 q2 q3 q4 q5 q6 q7 q8 q9 q10 ⊢
  refine EvP.to (Frame_impl (by omega) a b c fin d r (by omega)) (EvP.to (Frame_spec k a b c fin d r (by omega)) ?_)
  refine EvP.to (a := (((), (false, ())), (r, ((k, (a, (b, (c, (fin, (d, ((), ()))))))), ())))) (EvP.no (by simp) (EvP.some (by simp))) (EvP.no rfl ?_)
  refine EvP.andK (Q := fun s => ∃ y, s = .inr ((), (r, ((k, (a, (b, (c, (fin, (d, ((), ()))))))), y)))) ?_ ?_
  · cases hg : goodB k a b c fin d r with
    | false =>
      rw [if_neg (by decide)]
      exact EvP.no rfl (EvP.some ⟨_, rfl⟩)
    | true =>
      rw [if_pos rfl]
      refine EvP.yes rfl ?_
      have hrd := Read_at hg (by omega) nilS (by decide)
      rw [app_nil] at hrd
      refine EvP.to hrd (EvP.to (a := ((false, ()), (r, ((k, (a, (b, (c, (fin, (d, ((), ()))))))), (mkF k a b c fin d r, ()))))) (EvP.nneg rfl (EvP.nneg rfl (EvP.to (sameFrames_ok k a b c fin d r (by omega)) (EvP.some rfl)))) (EvP.no rfl (EvP.some ⟨_, rfl⟩)))
  rintro s ⟨y, rfl⟩
  refine EvP.inr (EvP.andK (DrawFrames_ok h1) ?_)
  rintro ⟨⟨⟨⟩, ⟨⟩⟩, l, ⟨⟩⟩ ⟨w1, w2⟩
  dsimp only at w1 w2 ⊢
  refine EvP.to (Frames_impl l w2) (EvP.to (Frames_spec l w2) ?_)
  unfold framesR
  by_cases hl : FramesOk l
  · rw [if_pos hl]
    refine EvP.to (a := (((), (false, ())), (r, ((k, (a, (b, (c, (fin, (d, ((), ()))))))), (l, ()))))) (EvP.no (by simp) (EvP.some (by simp))) (EvP.no rfl (EvP.no rfl ?_))
    obtain ⟨l1, l2, l3⟩ := hl
    refine EvP.to (EvP.of (fun N => impl_ReadFrames.eq N _) (EvP.neg (by dsimp only; omega) (EvP.to (reads_l l [] l2 w2 (by simp; omega) l3) (EvP.inr (EvP.some rfl))))) ?_
    refine EvP.to (a := (((), ((), (false, ()))), (r, ((k, (a, (b, (c, (fin, (d, ((), ()))))))), (l, (l, ())))))) (EvP.nneg rfl (EvP.some (by simp))) (EvP.no rfl ?_)
    refine EvP.andK (law_l l.length l 0 (by omega) (by omega) (by omega) w2 r k a b c fin d) ?_
    rintro s ⟨x, rfl⟩
    exact EvP.inr (EvP.some rfl)
  · rw [if_neg hl]
    exact EvP.to (a := (((), (false, ())), (r, ((k, (a, (b, (c, (fin, (d, ((), ()))))))), (l, ()))))) (EvP.no (by simp) (EvP.some (by simp))) (EvP.no rfl (EvP.yes rfl (EvP.some rfl)))
end Go.Proofs.Ytbfkfhadcmpndaa.Pure
