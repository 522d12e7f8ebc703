/- Fields are read back from their bytes. -/
import Derived.Test.YthkjjombaoffcaaDoorQFldGFnFields
set_option linter.unusedVariables false
set_option linter.unusedSectionVars false
set_option linter.unusedSimpArgs false
namespace Go.Proofs.YthkjjombaoffcaaDoor.CFnFields
open Go Go.Proofs Go.Proofs.YthkjjombaoffcaaDoorPM Go.Proofs.YthkjjombaoffcaaDoor.Q Go.Proofs.YthkjjombaoffcaaDoor.GFnFields

abbrev statA (k : Int) : Fd := rdS FSh statT (Int.toNat k)
theorem statF_i (k : Int) (h0 : 0 ≤ k) (h1 : k ≤ 15) : EvP (fun N => impl_StaticField N k) (· = ((((statA k).1, ((statA k).2, ())), (true, ())), ())) := by
  refine EvP.of (fun N => impl_StaticField.eq N _) (EvP.to static_i (EvP.to (in_impl _ _ _) ?_))
  have e : IntKind.i64.wrap (((statT.length : Nat) : Int) - 1) = 15 := by rw [stat_len]; decide +kernel
  dsimp only
  rw [e]
  exact EvP.nneg ⟨h0, h1⟩ (EvP.to static_i (EvP.chk2 h0 (by rw [stat_len]; omega) (EvP.some rfl)))
theorem statF_s (k : Int) (h0 : 0 ≤ k) (h1 : k ≤ 15) : EvP (fun N => spec_StaticField N k) (· = ((((statA k).1, ((statA k).2, ())), (true, ())), ())) := by
  refine EvP.of (fun N => spec_StaticField.eq N _) (EvP.to (in_spec _ _ _) (EvP.nneg ⟨h0, h1⟩ (EvP.to static_s (EvP.chk2 h0 (by rw [stat_len]; omega) (EvP.some rfl)))))
abbrev emp : ByteArray := ⟨#[]⟩
abbrev FT := ByteArray × (ByteArray × Unit)
abbrev CT := ByteArray × (Bool × Unit)
abbrev JF := ((Unit × Unit) × (CT × (FT × (FT × Unit)))) ⊕ ((Unit × (Unit × (Unit × Unit))) × (CT × (FT × (FT × Unit))))
theorem field_read {f : Fd} (rest : ByteArray) (h : SmallF f) (hr : rest.size ≤ 100000) :
    EvP (fun N => impl_cursor_field N (fieldF f ++ rest) false) (· = (((f.1, (f.2, ())), ()), ((rest, (false, ())), ()))) := by
  obtain ⟨x1, x2, x3⟩ := exactF_ok f
  obtain ⟨y1, y2, y3⟩ := namedF_ok f
  have hs := (fieldF_size h).2
  have hv := valF_size h
  obtain ⟨s1, s2⟩ := h
  have hsz : (fieldF f ++ rest).size = (fieldF f).size + rest.size := ByteArray.size_append
  refine EvP.of (fun N => impl_cursor_field.eq N _ _) ?_
  by_cases he : 0 ≤ exactF f
  · have e := fieldF_e he
    have hb : (bytesL (fieldF f ++ rest)).getD 0 0 = 192 + exactF f := by
      rw [e, pre_head rest (by decide) he (by decide) (by decide), if_pos (by omega)]
    have hf := x3 he
    clear x3 y3
    refine EvP.to (a := (.inl (((), ()), ((rest, (false, ())), ((f.1, (f.2, ())), ((f.1, (f.2, ())), ())))) : JF)) (EvP.chk1 (by omega) ?_) (EvP.inl (EvP.some rfl))
    rw [hb, i64w (n := 192 + exactF f) (by omega) (by omega), e]
    refine EvP.pos (by omega) (EvP.to (curPre rest k6 he (by omega) (by omega)) (EvP.to (statF_i (exactF f) he x2) (EvP.some ?_)))
    show Sum.inl (((), ()), ((rest, (false, ())), (((statA (exactF f)).1, ((statA (exactF f)).2, ())), (((statA (exactF f)).1, ((statA (exactF f)).2, ())), ())))) = _
    rw [show statA (exactF f) = f from hf]
  · have tail : ∀ {j : JF}, j = (.inr (((), ((), ((), ()))), ((valF f ++ rest, (false, ())), ((emp, (emp, ())), ((f.1, (emp, ())), ())))) : JF) → EvP (fun N => orK j (fun x8 => some (((x8.2.2.1.1, (x8.2.2.1.2.1, ())), ()), ((x8.2.1.1, (x8.2.1.2.1, ())), ())))
      (fun x9 => andK (impl_cursor_prefix N 7 x9.2.1.1 x9.2.1.2.1) fun u10 => andK (impl_cursor_take N u10.1.1 u10.2.1.1 u10.2.1.2.1) fun u11 => some (((x9.2.2.2.1.1, (u11.1.1, ())), ()), ((u11.2.1.1, (u11.2.1.2.1, ())), ())))) (· = (((f.1, (f.2, ())), ()), ((rest, (false, ())), ()))) := fun {j} hj => by
      subst hj
      refine EvP.inr ?_
      dsimp only
      have ev : valF f ++ rest = preF 127 0 (f.2.size : Int) ++ (f.2 ++ rest) := by unfold valF; exact app_assoc _ _ _
      rw [ev]
      exact EvP.to (curPre (f.2 ++ rest) k7 (by omega) (by omega) (by rw [ByteArray.size_append]; omega)) (EvP.to (curTake f.2 rest (by omega) (by omega)) (EvP.some rfl))
    by_cases hn : 0 ≤ namedF f
    · have e := fieldF_n he hn
      have ea : fieldF f ++ rest = preF 15 80 (namedF f) ++ (valF f ++ rest) := by rw [e, app_assoc]
      have hb : (bytesL (fieldF f ++ rest)).getD 0 0 = 80 + (if namedF f < 15 then namedF f else 15) := by
        rw [ea, pre_head _ (by decide) hn (by decide) (by decide)]
      have hb2 : 80 ≤ (bytesL (fieldF f ++ rest)).getD 0 0 ∧ (bytesL (fieldF f ++ rest)).getD 0 0 ≤ 95 := by rw [hb]; split <;> omega
      have hf := y3 hn
      clear x3 y3
      refine EvP.to (a := (.inr (((), ((), ((), ()))), ((valF f ++ rest, (false, ())), ((emp, (emp, ())), ((f.1, (emp, ())), ())))) : JF)) (EvP.chk1 (by omega) ?_) (tail rfl)
      rw [i64w (n := (bytesL (fieldF f ++ rest)).getD 0 0) (by omega) (by omega)]
      refine EvP.neg (by omega) (EvP.pos (by omega) ?_)
      rw [ea]
      refine EvP.to (curPre (valF f ++ rest) k4 hn (by omega) (by rw [ByteArray.size_append]; omega)) (EvP.to (statF_i (namedF f) hn y2) (EvP.some ?_))
      show Sum.inr (((), ((), ((), ()))), ((valF f ++ rest, (false, ())), ((emp, (emp, ())), (((statA (namedF f)).1, (emp, ())), ())))) = _
      rw [show (statA (namedF f)).1 = f.1 from hf]
    · have e := fieldF_d he hn
      clear x3 y3
      have ea : fieldF f ++ rest = preF 7 32 (f.1.size : Int) ++ (f.1 ++ (valF f ++ rest)) := by rw [e, app_assoc, app_assoc]
      have hb : (bytesL (fieldF f ++ rest)).getD 0 0 = 32 + (if (f.1.size : Int) < 7 then (f.1.size : Int) else 7) := by
        rw [ea, pre_head _ (by decide) (by omega) (by decide) (by decide)]
      have hb2 : 32 ≤ (bytesL (fieldF f ++ rest)).getD 0 0 ∧ (bytesL (fieldF f ++ rest)).getD 0 0 ≤ 39 := by rw [hb]; split <;> omega
      refine EvP.to (a := (.inr (((), ((), ((), ()))), ((valF f ++ rest, (false, ())), ((emp, (emp, ())), ((f.1, (emp, ())), ())))) : JF)) (EvP.chk1 (by omega) ?_) (tail rfl)
      rw [i64w (n := (bytesL (fieldF f ++ rest)).getD 0 0) (by omega) (by omega)]
      refine EvP.neg (by omega) (EvP.neg (by omega) ?_)
      rw [ea]
      exact EvP.to (curPre (f.1 ++ (valF f ++ rest)) k3 (by omega) (by omega) (by rw [ByteArray.size_append, ByteArray.size_append]; omega)) (EvP.to (curTake f.1 (valF f ++ rest) (by omega) (by rw [ByteArray.size_append]; omega)) (EvP.some rfl))
theorem read_l (s : ByteArray) : ∀ (r out : List Fd), out.length + r.length ≤ 30 → SmallL r →
    EvP (fun N => impl_ReadFields.l0 N s (catF r) false out) (· = (((), ((), ())), ((emp, (false, ())), (out ++ r, ())))) := by
  intro r
  induction r with
  | nil =>
    intro out hl hr
    refine EvP.step (fun N => impl_ReadFields.l0.eq N _ _ _ _) ?_
    refine EvP.to (a := (((), ((), (false, ()))), ((emp, (false, ())), (out, ())))) (EvP.no (by show (!(decide (emp = emp))) = false; simp) (EvP.some rfl)) (EvP.no rfl (EvP.some ?_))
    rw [List.append_nil]
  | cons f r ih =>
    intro out hl hr
    have hf := hr f (List.mem_cons_self ..)
    have hr' : SmallL r := fun g hg => hr g (List.mem_cons_of_mem _ hg)
    have hs := (fieldF_size hf).2
    have hc := catF_size hr'
    rw [List.length_cons] at hl
    refine EvP.step (fun N => impl_ReadFields.l0.eq N _ _ _ _) ?_
    show EvP (fun N => andK _ _) _
    have hne : ¬ (fieldF f ++ catF r) = (⟨#[]⟩ : ByteArray) := fun e => by rw [eq_nil_iff, ByteArray.size_append] at e; omega
    refine EvP.to (a := (((), ((), (true, ()))), ((fieldF f ++ catF r, (false, ())), (out, ())))) (EvP.npos hne (EvP.yes rfl (EvP.some ?_))) (EvP.yes rfl (EvP.to (field_read (catF r) hf (by omega)) (EvP.chk1 (by unfold most; dsimp only; omega) ?_)))
    · rw [decide_eq_true (show ((out.length : Nat) : Int) ≤ 30 by omega)]; rfl
    · refine EvP.eq (ih (out ++ [f]) (by rw [List.length_append, List.length_singleton]; omega) hr') ?_
      rw [List.append_assoc]; rfl
theorem goodsB_p {l : List Fd} (h : goodsB l = true) : l.length ≤ 30 ∧ SmallL l ∧ ∀ f ∈ l, BigF f := by
  unfold goodsB at h
  rw [Bool.and_eq_true, decide_eq_true_eq, List.all_eq_true] at h
  have hs : SmallL l := fun f hf => by
    have h1 := h.1 f hf
    unfold goodFB nameB valueB at h1
    simp only [Bool.and_eq_true, decide_eq_true_eq] at h1
    exact ⟨by have := h1.1.2.2; omega, by have := h1.2.2; omega⟩
  exact ⟨by have := h.2; omega, hs, fun f hf => by have := hs f hf; exact ⟨by have := this.1; omega, by have := this.2; omega⟩⟩
theorem read_ok {l : List Fd} (h : goodsB l = true) : EvP (fun N => impl_ReadFields N (fieldsF l)) (· = (((), (true, ())), (l, ()))) := by
  obtain ⟨hl, hs, hb⟩ := goodsB_p h
  have hc := catF_size hs
  refine EvP.of (fun N => impl_ReadFields.eq N _) (EvP.to (curTake nul2 (catF l) (by decide) (by omega)) (EvP.to (read_l (fieldsF l) l [] (by simp; omega) hs) (EvP.no rfl (EvP.to (goods_i l (by omega) hb) (EvP.no (by rw [h]; rfl) (EvP.to (fields_i l (by omega) hs) (EvP.nneg rfl (EvP.some rfl))))))))
def outF (l : List Fd) : (ByteArray × (Bool × Unit)) × Unit := match goodsB l with | true => ((fieldsF l, (true, ())), ()) | false => ((emp, (false, ())), ())
theorem out_i (l : List Fd) (hl : l.length ≤ 1000) (hb : ∀ f ∈ l, BigF f) : EvP (fun N => impl_FieldsBytes N l) (· = outF l) := by
  refine EvP.of (fun N => impl_FieldsBytes.eq N _) (EvP.to (goods_i l hl hb) ?_)
  unfold outF
  cases hg : goodsB l with
  | false => exact EvP.yes rfl (EvP.some rfl)
  | true =>
    obtain ⟨h1, h2, h3⟩ := goodsB_p hg
    exact EvP.no rfl (EvP.to (fields_i l (by omega) h2) (EvP.some rfl))
theorem out_s (l : List Fd) (hl : l.length ≤ 1000) (hb : ∀ f ∈ l, BigF f) : EvP (fun N => spec_FieldsBytes N l) (· = outF l) := by
  refine EvP.of (fun N => spec_FieldsBytes.eq N _) (EvP.to (goods_s l hl hb) ?_)
  unfold outF
  cases hg : goodsB l with
  | false => exact EvP.yes rfl (EvP.some rfl)
  | true =>
    obtain ⟨h1, h2, h3⟩ := goodsB_p hg
    exact EvP.no rfl (EvP.to (fields_s l (by omega) h2) (EvP.some rfl))
theorem stat_tab : ∀ k : Fin 16, exactF (statA ((k.val : Nat) : Int)) = ((k.val : Nat) : Int) ∧ namedF (statA ((k.val : Nat) : Int)) ≤ ((k.val : Nat) : Int) ∧ goodFB (statA ((k.val : Nat) : Int)) = true := by decide +kernel
theorem stat_ok (k : Int) (h0 : 0 ≤ k) (h1 : k ≤ 15) : exactF (statA k) = k ∧ namedF (statA k) ≤ k ∧ goodFB (statA k) = true := by
  obtain ⟨n, rfl⟩ := Int.eq_ofNat_of_zero_le h0
  exact stat_tab ⟨n, by omega⟩
end Go.Proofs.YthkjjombaoffcaaDoor.CFnFields
