/- Both packages write capsules alike. -/
import Derived.Test.YtdmnpmhdindabaaQCapWFnCapsules
import Derived.Test.YtdmnpmhdindabaaQVarPutFnCapsules
import Derived.Test.YtdmnpmhdindabaaQInFnCapsules
set_option linter.unusedVariables false
set_option linter.unusedSimpArgs false
namespace Go.Proofs.Ytdmnpmhdindabaa.CFnCapsules
open Go Go.Proofs Go.Proofs.YtdmnpmhdindabaaPM Go.Proofs.Ytdmnpmhdindabaa.Q Go.Proofs.Ytdmnpmhdindabaa.GFnCapsules

theorem rdP {l : List (Int × ByteArray)} {i : Nat} (h : i < l.length) : rdS (.pair (.int .i64) .str) l i = l[i] := by
  show l.getD i _ = _
  rw [List.getD_eq_getElem?_getD, List.getElem?_eq_getElem h]
  rfl
def CapOk (c : Int × ByteArray) : Prop := (0 ≤ c.1 ∧ c.1 ≤ 4611686018427387903) ∧ ¬ 200 < (c.2.size : Int)
instance (c : Int × ByteArray) : Decidable (CapOk c) := by unfold CapOk; exact inferInstance
def CapsOk (l : List (Int × ByteArray)) : Prop := (l.length : Int) ≤ 30 ∧ ∀ c ∈ l, CapOk c
instance (l : List (Int × ByteArray)) : Decidable (CapsOk l) := by unfold CapsOk; exact inferInstance
theorem bad_impl (c : Int × ByteArray) : EvP (fun N => impl_capsulesOk_1 N c.1 c.2) (· = ((decide (¬ CapOk c), ()), ())) := by
  refine EvP.of (fun N => impl_capsulesOk_1.eq N _ _) (EvP.to (EvP.of (fun N => impl_isVarint.eq N _) (EvP.to (in_impl _ _ _) (EvP.some rfl))) ?_)
  refine EvP.selnb rfl (fun h => EvP.some ?_) (fun h => EvP.some ?_)
  · rw [decide_eq_true (p := ¬ CapOk c) (fun hq => h hq.1)]
  · congr 2
    exact dec_eq (fun hq hk => hk.2 hq) (fun hq => Classical.byContradiction fun hn => hq ⟨h, hn⟩)
theorem all_impl (l : List (Int × ByteArray)) (hl : l.length ≤ 1000000) : EvP (fun N => slices_ContainsFuncimpl_Capsule_impl_Capsule N l) (· = ((decide (¬ ∀ c ∈ l, CapOk c), ()), ())) := by
  refine EvP.of (fun N => slices_ContainsFuncimpl_Capsule_impl_Capsule.eq N _) ?_
  refine EvP.andK (Q := fun r => 0 ≤ r.1.1 ↔ ¬ ∀ c ∈ l, CapOk c) ?_ ?_
  · refine EvP.of (fun N => slices_IndexFuncimpl_Capsule_impl_Capsule.eq N _) ?_
    refine EvP.andK (Q := fun r => (∀ x, r = .inl x → 0 ≤ x.1.1 ∧ ¬ ∀ c ∈ l, CapOk c) ∧ (∀ x, r = .inr x → ∀ c ∈ l, CapOk c)) ?_ ?_
    · refine EvP.count (f := fun N i (_ : Unit) => slices_IndexFuncimpl_Capsule_impl_Capsule.l0 N l (l.length : Int) i) (n := l.length) (inv := fun i _ => ∀ c ∈ l.take i, CapOk c) ?_ ?_ 0 () (by omega) (by simp)
      · intro i _ hi hv next
        refine EvP.step (fun N => slices_IndexFuncimpl_Capsule_impl_Capsule.l0.eq N _ _ _) (EvP.pos (by omega) (EvP.chk2 (by omega) (by omega) ?_))
        rw [Int.toNat_natCast, rdP hi]
        refine EvP.to (bad_impl _) (EvP.selb rfl (fun h => EvP.some ⟨fun x e => ?_, fun x e => (by cases e)⟩) (fun h => ?_))
        · cases e
          exact ⟨by dsimp only; omega, fun hall => h (hall _ (List.getElem_mem hi))⟩
        · rw [show IntKind.i64.wrap ((i : Int) + 1) = ((i + 1 : Nat) : Int) by rw [i64w (by omega) (by omega)]; omega]
          refine next () ?_
          rw [List.take_succ_eq_append_getElem hi]
          intro c hc
          rcases List.mem_append.1 hc with hc | hc
          · exact hv c hc
          · rw [List.mem_singleton.1 hc]; exact Classical.not_not.1 h
      · intro _ hv
        refine EvP.step (fun N => slices_IndexFuncimpl_Capsule_impl_Capsule.l0.eq N _ _ _) (EvP.neg (by omega) (EvP.some ⟨fun x e => (by cases e), fun x e => ?_⟩))
        rw [List.take_length] at hv
        exact hv
    · rintro r ⟨h1, h2⟩
      refine EvP.or (fun x e => EvP.some ?_) (fun x e => EvP.some ?_)
      · have := h1 x e
        exact ⟨fun _ => this.2, fun _ => this.1⟩
      · have := h2 x e
        exact ⟨fun h => by dsimp only at h; omega, fun h => absurd this h⟩
  · intro r h
    refine EvP.some ?_
    congr 2
    exact decide_eq_decide.2 h
theorem ok_impl (l : List (Int × ByteArray)) (hl : l.length ≤ 1000000) : EvP (fun N => impl_capsulesOk N l) (· = ((decide (CapsOk l), ()), ())) := by
  refine EvP.of (fun N => impl_capsulesOk.eq N _) (EvP.ite (fun h => ?_) (fun h => ?_))
  · refine EvP.to (all_impl l hl) (EvP.some ?_)
    dsimp only
    by_cases ha : ∀ c ∈ l, CapOk c
    · rw [decide_eq_false (fun hq => hq ha), decide_eq_true (show CapsOk l from ⟨h, ha⟩)]; rfl
    · rw [decide_eq_true ha, decide_eq_false (fun hq : CapsOk l => ha hq.2)]; rfl
  · rw [decide_eq_false (fun hq : CapsOk l => h hq.1)]
    exact EvP.some rfl
theorem ok_spec (l : List (Int × ByteArray)) (hl : l.length ≤ 1000000) : EvP (fun N => spec_l16Good N l) (· = ((decide (CapsOk l), ()), ())) := by
  refine EvP.of (fun N => spec_l16Good.eq N _) ?_
  refine EvP.andK (Q := fun r => (∀ x, r = .inl x → x.1.1 = false ∧ ¬ ∀ c ∈ l, CapOk c) ∧ (∀ x, r = .inr x → ∀ c ∈ l, CapOk c)) ?_ ?_
  · refine EvP.count (f := fun N i (_ : Unit) => spec_l16Good.l0 N l l (l.length : Int) i) (n := l.length) (inv := fun i _ => ∀ c ∈ l.take i, CapOk c) ?_ ?_ 0 () (by omega) (by simp)
    · intro i _ hi hv next
      refine EvP.step (fun N => spec_l16Good.l0.eq N _ _ _ _) (EvP.pos (by omega) (EvP.chk2 (by omega) (by omega) ?_))
      rw [Int.toNat_natCast, rdP hi]
      refine EvP.to (a := ((decide (¬ CapOk l[i]), ()), ((l[i].1, (l[i].2, ())), ()))) ?_ ?_
      · refine EvP.to (EvP.of (fun N => spec_l1Known.eq N _) (EvP.to (in_spec _ _ _) (EvP.some rfl))) ?_
        refine EvP.selnb rfl (fun h => EvP.some ?_) (fun h => EvP.some ?_)
        · rw [decide_eq_true (p := ¬ CapOk l[i]) (fun hq => h hq.1)]
        · congr 2
          exact dec_eq (fun hq hk => hk.2 hq) (fun hq => Classical.byContradiction fun hn => hq ⟨h, hn⟩)
      · refine EvP.selb rfl (fun h => EvP.some ⟨fun x e => ?_, fun x e => (by cases e)⟩) (fun h => ?_)
        · cases e
          exact ⟨rfl, fun hall => h (hall _ (List.getElem_mem hi))⟩
        · rw [show IntKind.i64.wrap ((i : Int) + 1) = ((i + 1 : Nat) : Int) by rw [i64w (by omega) (by omega)]; omega]
          refine next () ?_
          rw [List.take_succ_eq_append_getElem hi]
          intro c hc
          rcases List.mem_append.1 hc with hc | hc
          · exact hv c hc
          · rw [List.mem_singleton.1 hc]; exact Classical.not_not.1 h
    · intro _ hv
      refine EvP.step (fun N => spec_l16Good.l0.eq N _ _ _ _) (EvP.neg (by omega) (EvP.some ⟨fun x e => (by cases e), fun x e => ?_⟩))
      rw [List.take_length] at hv
      exact hv
  · rintro r ⟨h1, h2⟩
    refine EvP.or (fun x e => EvP.some ?_) (fun x e => EvP.some ?_)
    · obtain ⟨e1, e2⟩ := h1 x e
      rw [e1, decide_eq_false (fun hq : CapsOk l => e2 hq.2)]
    · have := h2 x e
      congr 2
      exact dec_eq (fun hq => ⟨hq, this⟩) (fun hq => hq.1)
theorem capsB_take {l : List (Int × ByteArray)} {i : Nat} (h : i < l.length) : capsB (l.take (i + 1)) = capsB (l.take i) ++ capB l[i] := by
  rw [List.take_succ_eq_append_getElem h, capsB_snoc]
theorem capB_size {c : Int × ByteArray} (h : CapOk c) : (capB c).size ≤ 216 := by
  have a := vsz_pos c.1
  have b := vsz_pos (c.2.size : Int)
  have := h.2
  unfold capB
  rw [ByteArray.size_append, ByteArray.size_append, vbs_size, vbs_size]
  omega
theorem capsB_size : ∀ {l : List (Int × ByteArray)}, (∀ c ∈ l, CapOk c) → (capsB l).size ≤ 216 * l.length := by
  intro l
  induction l with
  | nil => intro _; exact Nat.zero_le _
  | cons c l ih =>
    intro h
    have a := capB_size (h c List.mem_cons_self)
    have b := ih (fun d hd => h d (List.mem_cons_of_mem _ hd))
    show (capB c ++ capsB l).size ≤ _
    rw [ByteArray.size_append, List.length_cons]
    omega
theorem put_impl (l : List (Int × ByteArray)) (h : CapsOk l) : EvP (fun N => impl_CapsulesBytes.l0 N l (l.length : Int) (⟨#[]⟩ : ByteArray) 0) (· = ((capsB l, ()), ())) := by
  obtain ⟨h1, h2⟩ := h
  refine EvP.count (f := fun N i (a : ByteArray) => impl_CapsulesBytes.l0 N l (l.length : Int) a i) (n := l.length) (inv := fun i a => a = capsB (l.take i)) ?_ ?_ 0 _ (by omega) rfl
  · rintro i a hi rfl next
    refine EvP.step (fun N => impl_CapsulesBytes.l0.eq N _ _ _ _) (EvP.pos (by omega) (EvP.chk2 (by omega) (by omega) ?_))
    rw [Int.toNat_natCast, rdP hi]
    have hc := h2 _ (List.getElem_mem hi)
    have hs := hc.2
    have hz := capsB_size (l := l.take i) (fun c hc => h2 c (List.mem_of_mem_take hc))
    rw [List.length_take] at hz
    have hb := capB_size hc
    have va := vsz_pos l[i].1
    have vb := vsz_pos (l[i].2.size : Int)
    refine EvP.to (varint_impl hc.1.1 (by have := hc.1.2; omega)) (EvP.to (a := ((vbs (l[i].2.size : Int) ++ l[i].2, ()), ())) ?_ (EvP.chk1 ?_ (EvP.chk1 ?_ ?_)))
    · refine EvP.of (fun N => impl_counted.eq N _) (EvP.to (varint_impl (by omega) (by omega)) (EvP.chk1 ?_ (EvP.some rfl)))
      dsimp only; rw [vbs_size]; omega
    · dsimp only; rw [ByteArray.size_append, vbs_size, vbs_size]; omega
    · show (capsB (l.take i)).size + (capB l[i]).size ≤ _; omega
    · rw [show IntKind.i64.wrap ((i : Int) + 1) = ((i + 1 : Nat) : Int) by rw [i64w (by omega) (by omega)]; omega]
      exact next _ (capsB_take hi).symm
  · rintro a rfl
    refine EvP.step (fun N => impl_CapsulesBytes.l0.eq N _ _ _ _) (EvP.neg (by omega) (EvP.some ?_))
    rw [List.take_length]
theorem put_spec (l : List (Int × ByteArray)) (h : CapsOk l) : EvP (fun N => spec_l16Bytes N l) (· = ((capsB l, ()), ())) := by
  obtain ⟨h1, h2⟩ := h
  refine EvP.of (fun N => spec_l16Bytes.eq N _) (EvP.to (a := ((capsB l, ()), ())) ?_ (EvP.some rfl))
  refine EvP.count (f := fun N i (a : ByteArray) => spec_l16Bytes.l0 N l (l.length : Int) a i) (n := l.length) (inv := fun i a => a = capsB (l.take i)) ?_ ?_ 0 _ (by omega) rfl
  · rintro i a hi rfl next
    refine EvP.step (fun N => spec_l16Bytes.l0.eq N _ _ _ _) (EvP.pos (by omega) (EvP.chk2 (by omega) (by omega) ?_))
    rw [Int.toNat_natCast, rdP hi]
    have hc := h2 _ (List.getElem_mem hi)
    have hs := hc.2
    have hz := capsB_size (l := l.take i) (fun c hc => h2 c (List.mem_of_mem_take hc))
    rw [List.length_take] at hz
    have hb := capB_size hc
    have va := vsz_pos l[i].1
    have vb := vsz_pos (l[i].2.size : Int)
    have hcat : (vbs l[i].1 ++ vbs (l[i].2.size : Int)) ++ l[i].2 = capB l[i] := app_assoc _ _ _
    refine EvP.to (var_spec hc.1.1 (by have := hc.1.2; omega)) (EvP.to (var_spec (by omega) (by omega)) (EvP.chk1 ?_ (EvP.chk1 ?_ (EvP.chk1 ?_ ?_))))
    · dsimp only; rw [vbs_size, vbs_size]; omega
    · dsimp only; rw [ByteArray.size_append, vbs_size, vbs_size]; omega
    · dsimp only; rw [hcat]; omega
    · dsimp only
      rw [hcat, show IntKind.i64.wrap ((i : Int) + 1) = ((i + 1 : Nat) : Int) by rw [i64w (by omega) (by omega)]; omega]
      exact next _ (capsB_take hi).symm
  · rintro a rfl
    refine EvP.step (fun N => spec_l16Bytes.l0.eq N _ _ _ _) (EvP.neg (by omega) (EvP.some ?_))
    rw [List.take_length]
/-- What both packages answer. -/
def cwOf (l : List (Int × ByteArray)) : (ByteArray × (Bool × Unit)) × Unit := if CapsOk l then ((capsB l, (true, ())), ()) else (((⟨#[]⟩ : ByteArray), (false, ())), ())
theorem CapsulesBytes_impl (l : List (Int × ByteArray)) (hl : l.length ≤ 1000000) : EvP (fun N => impl_CapsulesBytes N l) (· = cwOf l) := by
  refine EvP.of (fun N => impl_CapsulesBytes.eq N _) (EvP.to (ok_impl l hl) ?_)
  unfold cwOf
  refine EvP.selnb rfl (fun h => ?_) (fun h => ?_)
  · rw [if_neg h]; exact EvP.some rfl
  · rw [if_pos h]; exact EvP.to (put_impl l h) (EvP.some rfl)
theorem CapsulesBytes_spec (l : List (Int × ByteArray)) (hl : l.length ≤ 1000000) : EvP (fun N => spec_CapsulesBytes N l) (· = cwOf l) := by
  refine EvP.of (fun N => spec_CapsulesBytes.eq N _) (EvP.to (ok_spec l hl) ?_)
  unfold cwOf
  refine EvP.selnb rfl (fun h => ?_) (fun h => ?_)
  · rw [if_neg h]; exact EvP.some rfl
  · rw [if_pos h]; exact EvP.to (put_spec l h) (EvP.some rfl)
end Go.Proofs.Ytdmnpmhdindabaa.CFnCapsules
