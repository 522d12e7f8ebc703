/- FnCounted: both packages count alike; a text that is counted twice is itself; its beginning is counted alike. -/
import Derived.Test.YtcngjidojibleabQCtrFnCounted
import Derived.Test.YtcngjidojibleabQDrawBlockFnCounted
import Derived.Test.YtcngjidojibleabQLawNumFnCounted
set_option linter.unusedVariables false
set_option linter.unusedSimpArgs false
namespace Go.Proofs.Ytcngjidojibleab.Pure
open Go Go.Proofs Go.Proofs.YtcngjidojibleabPM Go.Proofs.Ytcngjidojibleab.Q Go.Proofs.Ytcngjidojibleab.CFnCounted Go.Proofs.Ytcngjidojibleab.GFnCounted

theorem draw_ok {l : List Int} (hl : Bytes l) : EvP (fun k => spec_DrawAesCounter k l) (fun _ => True) := by
  refine EvP.of (fun k => spec_DrawAesCounter.eq k _) (EvP.andK (block_ok hl 0 0 (by decide) (by decide)) ?_)
  rintro ⟨⟨x, ⟨⟩⟩, ⟨l1, a1, s1, ⟨⟩⟩, ⟨⟩⟩ ⟨hl1, h2, h3⟩
  obtain rfl : l1 = l := hl1
  dsimp only at h2 h3 ⊢
  refine EvP.andK (Q := fun r => CuP l1 0 200 r.2) ?_ ?_
  · refine EvP.andK (Q := fun r => CuP l1 0 150 r.2 ∧ (r.1.2.1 = true → x.size = 16)) ?_ ?_
    · refine EvP.ite (fun h => ?_) (fun h => ?_)
      · refine EvP.andK (one_ok hl 6 a1 s1 (by omega) (by omega)) ?_
        rintro ⟨⟨y, ⟨⟩⟩, ⟨l2, a2, s2, ⟨⟩⟩, ⟨⟩⟩ ⟨hl2, h4, h5⟩
        obtain rfl : l2 = l1 := hl2
        dsimp only at h4 h5
        exact EvP.some ⟨⟨rfl, by dsimp only; omega, by dsimp only; omega⟩, fun _ => by omega⟩
      · exact EvP.some ⟨⟨rfl, by dsimp only; omega, by dsimp only; omega⟩, fun h => by cases h⟩
    · rintro ⟨⟨⟨⟩, y, ⟨⟩⟩, ⟨l2, a2, s2, ⟨⟩⟩, ⟨⟩⟩ ⟨⟨hl2, h4, h5⟩, h6⟩
      obtain rfl : l2 = l1 := hl2
      dsimp only at h4 h5 h6 ⊢
      refine EvP.sel (fun hy => ?_) (fun hy => EvP.some ⟨rfl, by dsimp only; omega, by dsimp only; omega⟩)
      have hx := h6 hy
      refine EvP.chk1 (by omega) (EvP.chk1 ?_ (EvP.some ⟨rfl, by dsimp only; omega, by dsimp only; omega⟩))
      rw [extract_size (by omega)]; decide
  · rintro ⟨⟨⟨⟩, y, ⟨⟩⟩, ⟨l2, a2, s2, ⟨⟩⟩, ⟨⟩⟩ ⟨hl2, h4, h5⟩
    obtain rfl : l2 = l1 := hl2
    dsimp only at h4 h5 ⊢
    refine EvP.andK (block_ok hl a2 s2 (by omega) (by omega)) ?_
    rintro ⟨⟨z, ⟨⟩⟩, ⟨l3, a3, s3, ⟨⟩⟩, ⟨⟩⟩ ⟨hl3, h6, h7⟩
    obtain rfl : l3 = l2 := hl3
    dsimp only at h6 h7 ⊢
    refine EvP.andK (pick_ok hl 60 a3 s3 (by omega) (by omega)) ?_
    rintro ⟨⟨n, ⟨⟩⟩, ⟨l4, a4, s4, ⟨⟩⟩, ⟨⟩⟩ ⟨⟨h8, _, h9, _⟩, hl4, h10, h11⟩
    obtain rfl : l4 = l3 := hl4
    have h9 := h9 (by decide)
    dsimp only at h8 h9 h10 h11 ⊢
    exact EvP.andK (sized_ok hl n a4 s4 (by omega) (by omega) (by omega) (by omega)) fun _ _ => EvP.some trivial
/-- What both packages answer. -/
def ctrOf (k s t : ByteArray) : (ByteArray × (Bool × Unit)) × Unit := if k.size = 16 ∧ s.size = 16 ∧ t.size ≤ 1500 then ((ctr k (s.extract 0 12) (vof (s.extract 12 16)).toNat t, (true, ())), ()) else ((⟨#[]⟩, (false, ())), ())
theorem Ctr_impl (k s t : ByteArray) : EvP (fun N => impl_AesCounter N k s t) (· = ctrOf k s t) := by
  refine EvP.of (fun n => impl_AesCounter.eq n _ _ _) ?_
  refine EvP.to (a := ((!decide (k.size = 16 ∧ s.size = 16 ∧ t.size ≤ 1500), ()), ())) ?_ ?_
  · refine EvP.to (EvP.of (fun n => impl_isKey.eq n _) (EvP.some rfl)) ?_
    by_cases hk : k.size = 16
    · refine EvP.no (by simp [hk]) (EvP.to (EvP.of (fun n => impl_isBlock.eq n _) (EvP.some rfl)) ?_)
      by_cases hs : s.size = 16
      · refine EvP.no (by simp [hs]) (EvP.some ?_)
        congr 2
        simp only [hk, hs, true_and]
        by_cases h : t.size ≤ 1500
        · rw [decide_eq_false (by omega), decide_eq_true h]; rfl
        · rw [decide_eq_true (by omega), decide_eq_false h]; rfl
      · exact EvP.yes (by simp; omega) (EvP.some (by simp [hs]))
    · exact EvP.yes (by simp; omega) (EvP.some (by simp [hk]))
  · unfold ctrOf
    by_cases h : k.size = 16 ∧ s.size = 16 ∧ t.size ≤ 1500
    · rw [if_pos h]
      obtain ⟨hk, hs, ht⟩ := h
      refine EvP.no (by simp [hk, hs, ht]) (EvP.andK (cipherOf_ok hk) ?_)
      rintro r ⟨hb, hr⟩
      rw [hr]
      exact EvP.to (counter_ok hk hb hs (by omega)) (EvP.some rfl)
    · rw [if_neg h]
      exact EvP.yes (by simp [h]) (EvP.some rfl)
theorem Ctr_spec (k s t : ByteArray) : EvP (fun N => spec_AesCounter N k s t) (· = ctrOf k s t) := by
  refine EvP.of (fun n => spec_AesCounter.eq n _ _ _) ?_
  refine EvP.to (a := ((!decide (k.size = 16 ∧ s.size = 16 ∧ t.size ≤ 1500), ()), ())) ?_ ?_
  · refine EvP.nite (fun hk => EvP.some (by simp [show ¬ k.size = 16 by omega])) (fun hk => EvP.nite (fun hs => EvP.some (by simp [show ¬ s.size = 16 by omega])) (fun hs => EvP.some ?_))
    congr 2
    by_cases h : t.size ≤ 1500
    · rw [decide_eq_false (by omega), decide_eq_true ⟨by omega, by omega, h⟩]; rfl
    · rw [decide_eq_true (by omega), decide_eq_false (fun h' => h h'.2.2)]; rfl
  · unfold ctrOf
    by_cases h : k.size = 16 ∧ s.size = 16 ∧ t.size ≤ 1500
    · rw [if_pos h]
      obtain ⟨hk, hs, ht⟩ := h
      exact EvP.no (by simp [hk, hs, ht]) (EvP.to (counter_spec hk hs (by omega)) (EvP.some rfl))
    · rw [if_neg h]
      exact EvP.yes (by simp [h]) (EvP.some rfl)
theorem FnCounted (a0 : List Int) (h0 : ∀ n ∈ a0, 0 ≤ n ∧ n ≤ 255) (s0 : a0.length ≤ 140737488351232) (a1 : List Int) (h1 : ∀ n ∈ a1, 0 ≤ n ∧ n ≤ 255) (s1 : a1.length ≤ 140737488351232) : ∃ N, laws_FnCounted N a0 a1 = some ((true, ()), ()) := by
  refine EvP.fin (EvP.of (fun k => laws_FnCounted.eq k _ _) ?_)
  refine EvP.ite (fun _ => EvP.some rfl) (fun _ => ?_)
  refine EvP.andK (draw_ok h0) ?_
  rintro ⟨⟨k, s, t, ⟨⟩⟩, ⟨⟩⟩ -
  dsimp only
  refine EvP.to (Ctr_impl k s t) (EvP.to (Ctr_spec k s t) (EvP.to (a := ((false, ()), ())) (EvP.no (by simp) (EvP.some (by simp))) (EvP.no rfl ?_)))
  by_cases h : k.size = 16 ∧ s.size = 16 ∧ t.size ≤ 1500
  · have e : ∀ u : ByteArray, u.size ≤ 1500 → ctrOf k s u = ((ctr k (s.extract 0 12) (vof (s.extract 12 16)).toNat u, (true, ())), ()) := fun u hu => if_pos ⟨h.1, h.2.1, hu⟩
    generalize hv : (vof (s.extract 12 16)).toNat = v at e
    generalize s.extract 0 12 = hd at e
    have ht := h.2.2
    rw [e t ht]
    refine EvP.no rfl (EvP.to (Ctr_impl k s _) (EvP.andK (lawNumber_ok h1 s1) ?_))
    rintro ⟨⟨n, ⟨⟩⟩, ⟨⟩⟩ ⟨hn1, hn2⟩
    rw [e _ (by rw [ctr_size]; exact ht), ctr_twice]
    dsimp only at hn1 hn2 ⊢
    obtain ⟨m, rfl⟩ := Int.eq_ofNat_of_zero_le hn1
    have e1 : IntKind.i64.wrap ((t.size : Int) + 1) = ((t.size + 1 : Nat) : Int) := by rw [i64w (by omega) (by omega)]; omega
    have e2 : Int.tmod (m : Int) ((t.size + 1 : Nat) : Int) = ((m % (t.size + 1) : Nat) : Int) := by rw [Int.tmod_eq_emod_of_nonneg (by omega)]; exact_mod_cast rfl
    rw [e1, e2, Int.toNat_natCast]
    have hlt : m % (t.size + 1) < t.size + 1 := Nat.mod_lt _ (by omega)
    generalize m % (t.size + 1) = c at hlt
    refine EvP.nz (by omega) (EvP.chk2 (by omega) (by omega) (EvP.to (Ctr_impl k s _) ?_))
    rw [e _ (by rw [extract_size (by omega)]; omega), ctr_begin _ _ _ _ (by omega)]
    exact EvP.yes rfl (EvP.yes rfl (EvP.pos rfl (EvP.chk2 (by omega) (by rw [ctr_size]; omega) (EvP.some (by simp)))))
  · rw [show ctrOf k s t = ((⟨#[]⟩, (false, ())), ()) from if_neg h]
    exact EvP.yes rfl (EvP.some (by simp))
end Go.Proofs.Ytcngjidojibleab.Pure
