/- FnFields: fields come back from their bytes, those of the table in a byte each. -/
import Derived.Test.YthkjjombaoffcaaDoorQFldRFnFields
import Derived.Test.YthkjjombaoffcaaDoorQLawNumFnFields
import Derived.Test.YthkjjombaoffcaaDoorSFnFields
set_option linter.unusedVariables false
set_option linter.unusedSectionVars false
set_option linter.unusedSimpArgs false
namespace Go.Proofs.YthkjjombaoffcaaDoor.Pure
open Go Go.Proofs Go.Proofs.YthkjjombaoffcaaDoorPM Go.Proofs.YthkjjombaoffcaaDoor.Q Go.Proofs.YthkjjombaoffcaaDoor.CFnFields Go.Proofs.YthkjjombaoffcaaDoor.GFnFields

theorem goods1 (f : CFnFields.Fd) (h : BigF f) : EvP (fun N => spec_GoodFields N [f]) (· = ((goodsB [f], ()), ())) := goods_s [f] (by simp) fun g hg => by rw [List.mem_singleton.1 hg]; exact h
theorem draw_l : ∀ (k : Nat) (n : Int), n = (k : Int) → k ≤ 31 → ∀ (c : List Int) (a s b : Int) (p : List CFnFields.Fd), Bytes c → 0 ≤ a → a ≤ b → b + 20 * n ≤ 4611686018426000000 → (∀ f ∈ p, BigF f) → p.length + k ≤ 100 →
    EvP (fun N => spec_l1Cur_fields.l0 N n c a s p) (fun z => z.2.2.1.length ≤ p.length + k ∧ ∀ f ∈ z.2.2.1, BigF f) := by
  intro k
  induction k with
  | zero =>
    intro n hn hk c a s b p hc h0 h1 hb hp hq
    exact EvP.step (fun N => spec_l1Cur_fields.l0.eq N _ _ _ _ _) (EvP.neg (by omega) (EvP.some ⟨Nat.le_refl _, hp⟩))
  | succ k ih =>
    intro n hn hk c a s b p hc h0 h1 hb hp hq
    refine EvP.step (fun N => spec_l1Cur_fields.l0.eq N _ _ _ _ _) (EvP.pos (by omega) ?_)
    rw [i64w (n := n - 1) (by omega) (by omega)]
    refine EvP.andK (Q := fun z => Bytes z.2.1.1 ∧ 0 ≤ z.2.1.2.1 ∧ z.2.1.2.1 ≤ b + 20 ∧ z.2.2.1.length ≤ p.length + 1 ∧ ∀ f ∈ z.2.2.1, BigF f) ?_ ?_
    · refine EvP.andK (spec_l1Cur_field_s (b := b) hc h0 h1 (by omega)) ?_
      rintro ⟨⟨⟨x, y, ⟨⟩⟩, ⟨⟩⟩, ⟨l2, a2, s2, ⟨⟩⟩, ⟨⟩⟩ ⟨q1, q2, q3, q4, q5, _⟩
      dsimp only at q1 q2 q3 q4 q5
      have hbig : BigF (x, y) := ⟨by dsimp only; omega, by dsimp only; omega⟩
      refine EvP.andK (Q := fun z => Bytes z.2.1.1 ∧ 0 ≤ z.2.1.2.1 ∧ z.2.1.2.1 ≤ b + 20 ∧ z.2.2.1 = p ∧ z.2.2.2.1 = (x, (y, ()))) ?_ ?_
      · refine EvP.to (goods1 (x, y) hbig) (EvP.sel (fun _ => EvP.some ⟨q3, q4, (by dsimp only; omega), rfl, rfl⟩) (fun _ => ?_))
        refine EvP.andK (one_s (b := b + 10) q3 q4 (by (try dsimp only); omega) (by omega)) ?_
        rintro ⟨⟨w, ⟨⟩⟩, ⟨l3, a3, s3, ⟨⟩⟩, ⟨⟩⟩ ⟨r1, r2, r3, _⟩
        exact EvP.some ⟨r1, r2, (by dsimp only at r3 ⊢; omega), rfl, rfl⟩
      · rintro ⟨u, ⟨l3, a3, s3, ⟨⟩⟩, p2, ⟨x2, y2, ⟨⟩⟩, ⟨⟩⟩ ⟨r1, r2, r3, r4, r5⟩
        dsimp only at r1 r2 r3 r4 r5
        cases r5
        subst r4
        refine EvP.sel (fun _ => EvP.chk1 (by unfold most; dsimp only; omega) (EvP.some ⟨r1, r2, r3, by simp, fun f hf => ?_⟩)) (fun _ => EvP.some ⟨r1, r2, r3, by simp, hp⟩)
        rcases List.mem_append.1 hf with hf | hf
        · exact hp f hf
        · rw [List.mem_singleton.1 hf]; exact hbig
    · rintro ⟨u, ⟨l3, a3, s3, ⟨⟩⟩, p2, ⟨⟩⟩ ⟨r1, r2, r3, r4, r5⟩
      dsimp only at r1 r2 r3 r4 r5
      exact (ih (n - 1) (by omega) (by omega) l3 a3 s3 (b + 20) p2 r1 r2 r3 (by omega) r5 (by omega)).mono fun z hz => ⟨by have := hz.1; omega, hz.2⟩
theorem draw_ok {c : List Int} (hc : Bytes c) : EvP (fun N => spec_DrawFieldsBytes N c) (fun z => z.2.1.length ≤ 31 ∧ ∀ f ∈ z.2.1, BigF f) := by
  refine EvP.of (fun N => spec_DrawFieldsBytes.eq N _) (EvP.andK (Q := fun z => z.2.1.length ≤ 31 ∧ ∀ f ∈ z.2.1, BigF f) (EvP.of (fun N => spec_DrawGoodFields.eq N _) (EvP.andK (Q := fun z => z.2.2.1.length ≤ 31 ∧ ∀ f ∈ z.2.2.1, BigF f) ?_ fun z hz => EvP.some hz)) fun z hz => EvP.some hz)
  refine EvP.of (fun N => spec_l1Cur_fields.eq N _ _ _) (EvP.andK (pick_s (b := 0) (m := 6) hc (by omega) (by omega) (by omega) (by omega) (by omega)) ?_)
  rintro ⟨⟨x, ⟨⟩⟩, ⟨l2, a2, s2, ⟨⟩⟩, ⟨⟩⟩ ⟨⟨x1, x2, _, _⟩, q1, q2, q3, _⟩
  dsimp only at x1 x2 q1 q2 q3
  refine EvP.andK (Q := fun z => Bytes z.2.1.1 ∧ 0 ≤ z.2.1.2.1 ∧ z.2.1.2.1 ≤ 10 ∧ 0 ≤ z.1.2.1 ∧ z.1.2.1 ≤ 31) ?_ ?_
  · refine EvP.andK (one_s (b := 2) q1 q2 (by (try dsimp only); omega) (by omega)) ?_
    rintro ⟨⟨w, ⟨⟩⟩, ⟨l3, a3, s3, ⟨⟩⟩, ⟨⟩⟩ ⟨r1, r2, r3, _⟩
    dsimp only at r1 r2 r3
    refine EvP.sel (fun _ => EvP.andK (pick_s (b := 4) (m := 1) r1 r2 (by (try dsimp only); omega) (by omega) (by omega) (by omega)) ?_) (fun _ => EvP.some ⟨r1, r2, (by dsimp only; omega), x1, (by dsimp only; omega)⟩)
    rintro ⟨⟨y, ⟨⟩⟩, ⟨l4, a4, s4, ⟨⟩⟩, ⟨⟩⟩ ⟨⟨y1, y2, _, _⟩, t1, t2, t3, _⟩
    dsimp only at y1 y2 t1 t2 t3
    refine EvP.some ⟨t1, t2, (by dsimp only; omega), ?_, ?_⟩ <;> (dsimp only; rw [i64w (n := 30 + y) (by omega) (by omega)]; omega)
  · rintro ⟨⟨⟨⟩, n, ⟨⟩⟩, ⟨l3, a3, s3, ⟨⟩⟩, ⟨⟩⟩ ⟨r1, r2, r3, r4, r5⟩
    dsimp only at r1 r2 r3 r4 r5
    exact EvP.andK (draw_l n.toNat n (by omega) (by omega) l3 a3 s3 10 [] r1 r2 r3 (by omega) (fun f hf => by cases hf) (by simp; omega)) fun z hz => EvP.some ⟨by have := hz.1; simp at this; dsimp only; omega, hz.2⟩

theorem law_l (o : List Int) (L : List CFnFields.Fd) (hL : L.length ≤ 1000) : ∀ (r l : List CFnFields.Fd), L = l ++ r → EvP (fun N => laws_FnFields.l0 N o (L.length : Int) (l.length : Int) L L) (· = .inr ((), (L, (L, ())))) := by
  intro r
  induction r with
  | nil =>
    intro l e
    rw [List.append_nil] at e
    subst e
    exact EvP.step (fun N => laws_FnFields.l0.eq N _ _ _ _ _) (EvP.neg (by omega) (EvP.some rfl))
  | cons x r ih =>
    intro l e
    have hlen : L.length = l.length + (r.length + 1) := by rw [e, List.length_append, List.length_cons]
    have hw : IntKind.i64.wrap ((l.length : Int) + 1) = (((l ++ [x]).length : Nat) : Int) := by rw [i64w (by omega) (by omega), List.length_append]; rfl
    refine EvP.step (fun N => laws_FnFields.l0.eq N _ _ _ _ _) (EvP.pos (by omega) (EvP.chk2 (by omega) (by omega) (EvP.chk2 (by omega) (by omega) (EvP.no (by simp) ?_))))
    rw [hw]
    exact ih (l ++ [x]) (by rw [e, List.append_assoc]; rfl)
theorem FnFields (a0 : List Int) (h0 : ∀ n ∈ a0, 0 ≤ n ∧ n ≤ 255) (s0 : a0.length ≤ 140737488351232) (a1 : List Int) (h1 : ∀ n ∈ a1, 0 ≤ n ∧ n ≤ 255) (s1 : a1.length ≤ 140737488351232) : ∃ N, laws_FnFields N a0 a1 = some ((true, ()), ()) := by
  refine EvP.fin (EvP.of (fun N => laws_FnFields.eq N _ _) (EvP.ite (fun _ => EvP.some rfl) (fun _ => EvP.andK (draw_ok h0) ?_)))
  rintro ⟨u, l, ⟨⟩⟩ ⟨hl, hb⟩
  dsimp only at hl hb
  refine EvP.to (out_i l (by omega) hb) (EvP.to (out_s l (by omega) hb) ?_)
  refine EvP.to (a := (((), (false, ())), (l, ()))) (EvP.no (by simp) (EvP.some (by simp))) (EvP.no rfl ?_)
  refine EvP.to (a := .inr ((), (l, ()))) ?_ (EvP.inr ?_)
  · unfold outF
    cases hg : goodsB l with
    | false => exact EvP.no rfl (EvP.some rfl)
    | true =>
      refine EvP.yes rfl (EvP.to (read_ok hg) (EvP.to (a := (((), ((), (false, ()))), (l, (l, ())))) (EvP.no rfl (EvP.some (by simp))) (EvP.no rfl (EvP.to (law_l a1 l (by omega) l [] rfl) (EvP.inr (EvP.some rfl))))))
  · refine EvP.andK (lawNumber_ok h1 s1) ?_
    rintro ⟨⟨n, ⟨⟩⟩, ⟨⟩⟩ ⟨n0, n1⟩
    dsimp only at n0 n1
    have hk : 0 ≤ Int.tmod n 16 ∧ Int.tmod n 16 ≤ 15 := by rw [Int.tmod_eq_emod_of_nonneg n0]; omega
    dsimp only
    generalize Int.tmod n 16 = k at hk
    obtain ⟨k0, k1⟩ := hk
    obtain ⟨t1, t2, t3⟩ := stat_ok k k0 k1
    have hg : goodsB [statA k] = true := by
      unfold goodsB
      rw [List.all_cons, t3]
      rfl
    obtain ⟨g1, g2, g3⟩ := goodsB_p hg
    refine EvP.to (statF_i k k0 k1) (EvP.to (statF_s k k0 k1) (EvP.to (at_i (statA k)) (EvP.to (out_i [statA k] (by simp) g3) ?_)))
    have ho : outF [statA k] = ((fieldsF [statA k], (true, ())), ()) := by unfold outF; rw [hg]
    have hsz : (fieldsF [statA k]).size = 3 := by
      show (nul2 ++ (fieldF (statA k) ++ CFnFields.emp)).size = 3
      have e := fieldF_e (f := statA k) (by rw [t1]; exact k0)
      rw [ByteArray.size_append, ByteArray.size_append, e, t1, preF_size, if_pos (by omega)]
      rfl
    rw [ho, t1]
    refine EvP.yes rfl (EvP.yes rfl (EvP.yes (by simp) (EvP.pos rfl (EvP.pos t2 (EvP.some ?_)))))
    dsimp only
    rw [hsz]
    rfl
end Go.Proofs.YthkjjombaoffcaaDoor.Pure
