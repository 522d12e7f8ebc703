/- FnCarried: whatever is drawn, what is carried comes back from its bytes, and both packages write the same. -/
import Derived.Test.YtcngjidojibleaaVarPutFnCarried
import Derived.Test.YtcngjidojibleaaCarriedFnCarried
import Derived.Test.YtcngjidojibleaaCurShortFnCarried
set_option linter.unusedVariables false
set_option linter.unusedSimpArgs false
namespace Go.Proofs.Ytcngjidojibleaa.Pure
open Go.RowKit Go.Proofs.Ytcngjidojibleaa.B Go.Proofs.Ytcngjidojibleaa.CFnCarried Go.Proofs.Ytcngjidojibleaa.PFnCarried Go.Proofs.YtcngjidojibleaaW.PrintWords Go.Proofs.YtcngjidojibleaaW.PrintLast Go.Proofs.YtcngjidojibleaaW.PrintMore

theorem draw_ok {l : List Int} (hl : Bytes l) : EvP (fun k => spec_DrawCarriedBytes.f k l) (fun _ => True) := by
  simp only [spec_DrawCarriedBytes.f, spec_DrawGoodCarried.f, spec_l1Cur_carried.f]
  refine EvP.bind (Q := fun _ => True) ?_ (fun _ _ => EvP.some trivial)
  refine EvP.bind (Q := fun _ => True) ?_ (fun _ _ => EvP.some trivial)
  refine EvP.bind0 (pick_ok hl 0 0 100 (by omega) (by omega)) ?_
  intro p hp
  refine EvP.bind0 (among_ok hl _ _ (by omega) (by omega) _ (by simp)) ?_
  intro q hq
  refine EvP.bind (short_ok hl _ _ (by omega) (by omega)) ?_
  intro r hr
  refine EvP.bind0 (pick_ok hl _ _ 20 (by omega) (by omega)) ?_
  intro t ht
  refine EvP.ite (fun _ => ?_) (fun _ => EvP.ite (fun _ => ?_) (fun _ => EvP.some trivial))
  · refine EvP.bind0 (among_ok hl _ _ (by omega) (by omega) _ (by simp)) ?_
    intro z hz
    exact EvP.some trivial
  · refine EvP.bind0 (pick_ok hl _ _ 2 (by omega) (by omega)) ?_
    intro z hz
    have := hz.2.2.1 (by omega)
    rw [w64 (n := 1200 + z.1) (by omega) (by omega)]
    exact EvP.pos (by omega) (EvP.pos (by omega) (EvP.some trivial))
theorem leftV_vbs {n : Int} (h0 : 0 ≤ n) (h1 : n < 4611686018427387904) (t : ByteArray) : leftV (vbs n ++ t) = t := by
  apply B_inj
  rw [B_leftV, TakeV_vbs h0 h1, B_append]
  show (B (vbs n) ++ B t).drop ((vsz n : Int)).toNat = B t
  rw [Int.toNat_natCast, List.drop_append_of_le_length (by rw [B_length, vbs_size]; exact Nat.le_refl _), List.drop_eq_nil_of_le (by rw [B_length, vbs_size]; exact Nat.le_refl _)]
  rfl
/-- What both packages make of what is carried. -/
def CB (s c : Int) (d : ByteArray) : ByteArray × Bool := if goodC s c d = true then ((vbs (s / 4) ++ vbs c) ++ d, true) else (⟨#[]⟩, false)
theorem good_parts {s c : Int} {d : ByteArray} (h : goodC s c d = true) : (0 ≤ s ∧ s ≤ 4611686018427387900) ∧ s % 4 = 0 ∧ (0 ≤ c ∧ c ≤ 4611686018427387903) ∧ (d.size : Int) ≤ 1200 := by
  unfold goodC at h
  simpa using h
theorem sizes_ok {s c : Int} {d : ByteArray} (h : (d.size : Int) ≤ 1200) : (vbs s).size + (vbs c).size ≤ 9223372036854775807 ∧ (vbs s ++ vbs c).size + d.size ≤ 9223372036854775807 := by
  have h1 := vsz_pos s
  have h2 := vsz_pos c
  rw [ByteArray.size_append, vbs_size, vbs_size]
  omega
theorem CarriedBytes_impl (s c : Int) (d : ByteArray) : EvP (fun k => impl_CarriedBytes.f k s c d) (· = CB s c d) := by
  simp only [impl_CarriedBytes.f, good_impl, Option.bind_some]
  unfold CB
  refine EvP.ite (fun h => ?_) (fun h => by rw [if_neg h]; exact EvP.some rfl)
  rw [if_pos h]
  obtain ⟨h1, h2, h3, h4⟩ := good_parts h
  rw [Int.tdiv_eq_ediv_of_nonneg h1.1, w64 (n := s / 4) (by omega) (by omega)]
  refine EvP.bind (varint_impl (n := s / 4) (by omega) (by omega)) ?_
  rintro a rfl
  refine EvP.bind (varint_impl (n := c) (by omega) (by omega)) ?_
  rintro b rfl
  obtain ⟨z1, z2⟩ := sizes_ok (s := s / 4) (c := c) h4
  exact EvP.pos z1 (EvP.pos z2 (EvP.some rfl))
theorem CarriedBytes_spec (s c : Int) (d : ByteArray) : EvP (fun k => spec_CarriedBytes.f k s c d) (· = CB s c d) := by
  simp only [spec_CarriedBytes.f, spec_l16Carried.f, good_spec, Option.bind_some]
  unfold CB
  refine EvP.ite (fun h => ?_) (fun h => by rw [if_neg h]; exact EvP.some rfl)
  rw [if_pos h]
  obtain ⟨h1, h2, h3, h4⟩ := good_parts h
  rw [Int.tdiv_eq_ediv_of_nonneg h1.1, w64 (n := s / 4) (by omega) (by omega)]
  refine EvP.bind (Q := fun t => t = (vbs (s / 4) ++ vbs c) ++ d) ?_ (by rintro t rfl; exact EvP.some rfl)
  refine EvP.bind (var_spec (n := s / 4) (by omega) (by omega)) ?_
  rintro a rfl
  refine EvP.bind (var_spec (n := c) (by omega) (by omega)) ?_
  rintro b rfl
  obtain ⟨z1, z2⟩ := sizes_ok (s := s / 4) (c := c) h4
  exact EvP.pos z1 (EvP.pos z2 (EvP.some rfl))
theorem Car_back {s c : Int} {d : ByteArray} (h : goodC s c d = true) : Car ((vbs (s / 4) ++ vbs c) ++ d) = (s, c, d, true) := by
  obtain ⟨h1, h2, h3, h4⟩ := good_parts h
  have e : (vbs (s / 4) ++ vbs c) ++ d = vbs (s / 4) ++ (vbs c ++ d) := by apply B_inj; simp only [B_append, List.append_assoc]
  have z1 := vsz_pos (s / 4)
  have z2 := vsz_pos c
  have hz : (vbs (s / 4) ++ (vbs c ++ d)).size = vsz (s / 4) + (vsz c + d.size) := by rw [ByteArray.size_append, ByteArray.size_append, vbs_size, vbs_size]
  rw [e]
  unfold Car
  rw [leftV_vbs (by omega) (by omega), leftV_vbs (by omega) (by omega), TakeV_vbs (by omega) (by omega), TakeV_vbs (by omega) (by omega), hz]
  have e4 : 4 * (s / 4) = s := by omega
  simp only [e4]
  rw [if_neg]
  simp only [not_or, h]
  refine ⟨by omega, by omega, by omega, by omega, by simp⟩
theorem FnCarried : laws_FnCarried.Pure := by
  intro l0 _ _ hw0
  have hl0 := bytes_of_wf hw0
  refine EvP.rounds ?_
  simp only [laws_FnCarried.f]
  refine EvP.ite (fun _ => EvP.some rfl) (fun _ => ?_)
  refine EvP.bind (draw_ok hl0) ?_
  intro x _
  refine EvP.bind (CarriedBytes_impl _ _ _) ?_
  rintro p rfl
  refine EvP.bind (CarriedBytes_spec _ _ _) ?_
  rintro p rfl
  generalize x.1 = s
  generalize x.2.1 = c
  generalize x.2.2 = d
  refine EvP.neg (by simp) ?_
  rw [show ((CB s c d).1.toList != (CB s c d).1.toList) = false by simp]
  refine EvP.step (fun k => by rw [laws_FnCarried.j0]) ?_
  refine EvP.neg (by simp) ?_
  by_cases h : goodC s c d = true
  · have e : CB s c d = ((vbs (s / 4) ++ vbs c) ++ d, true) := by unfold CB; rw [if_pos h]
    obtain ⟨h1, h2, h3, h4⟩ := good_parts h
    have z1 := vsz_pos (s / 4)
    have z2 := vsz_pos c
    rw [e]
    refine EvP.pos rfl ?_
    refine EvP.bind (ReadCarried_impl _ (by simp only [ByteArray.size_append, vbs_size]; omega)) ?_
    rintro r rfl
    rw [Car_back h]
    exact EvP.pos rfl (EvP.some (by simp))
  · have e : CB s c d = (⟨#[]⟩, false) := by unfold CB; rw [if_neg h]
    rw [e]
    exact EvP.neg (by simp) (EvP.some (by rw [toList_nil]; rfl))
end Go.Proofs.Ytcngjidojibleaa.Pure
