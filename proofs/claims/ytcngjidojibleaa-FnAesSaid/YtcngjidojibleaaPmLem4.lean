/- Single operations: stores, new variables, structs. -/
import Derived.Test.YtcngjidojibleaaPmLem3
set_option linter.unusedVariables false
set_option linter.unusedSectionVars false
set_option linter.unusedSimpArgs false
namespace Go.Proofs.YtcngjidojibleaaPM
open Go Go.RowKit
variable [Foreign]

variable {P : Program} {base : Nat} {σ : Sig} {pb : Pb} {w : World}

theorem store_ok {t : TypeId} {a x : PV} {y z : Value} {tr : Tri} (h : oStore P t a x σ = some tr) (h1 : tr.ok = true) (hs : St base σ pb w) (hva : VR σ pb w a y) (hvx : VR σ pb w x z) :
    ∃ w', (Instr.storeAt t y z).run P w = .ok () w' ∧ St base tr.σ pb w' ∧ Ext σ pb w tr.σ pb w' ∧ tr.pv = .dead := by
  have gen : (if (pvCells x).length = szOf P t ∧ szOf P t ≠ 0 ∧ (pvCells x).all (liveCell σ) = true then match storeP σ a x with
      | some σ' => some (⟨true, .dead, σ'⟩ : Tri)
      | none => none
    else none) = some tr → ∃ w', (Instr.storeAt t y z).run P w = .ok () w' ∧ St base tr.σ pb w' ∧ Ext σ pb w tr.σ pb w' ∧ tr.pv = .dead := by
    intro h
    split at h
    · rename_i hc
      split at h
      · rename_i σ' hp
        cases h
        obtain ⟨w', a1, a2, a3⟩ := storeP_ok hp hc.1 hc.2.2 hs hva hvx hc.2.1
        exact ⟨w', a1, a2, a3, rfl⟩
      · cases h
    · cases h
  unfold oStore at h
  cases x with
  | arr k l =>
    simp only at h
    split at h
    · rename_i p n g m _ hu
      split at h
      · rename_i k' xs g' hk
        split at h
        · rename_i hc
          obtain ⟨rfl, rfl, rfl, hz, hne⟩ := hc
          cases h
          simp only [Bool.and_eq_true, decide_eq_true_eq] at h1
          obtain ⟨hlt, b, o', rfl, hva⟩ := hva
          obtain ⟨hb, hle, rfl⟩ := (hva _ _ _ hk).2 rfl
          obtain ⟨c, e', f, a1, a2, a3, a4⟩ := St.rows (hs := hs) hk hb
          have hvx : z = .agg (l.map (Value.int k')).toArray := hvx
          subst hvx
          obtain ⟨ti, hti⟩ := szOf_info (P := P) (t := t) (by omega)
          simp only [Sh.n, Nat.mul_one] at a3
          obtain ⟨w', hr, hu'⟩ := storeVar_run (P := P) hti a1 a2 (y := .agg (l.map (Value.int k')).toArray) (ys := l.map (Value.int k')) (o := 0) rfl (by simp; omega) (by simp; omega) (by simp [oneB])
          have hal : Alike (.rows (.int k') xs g') (.rows (.int k') l g') := ⟨rfl, Nat.le_refl _, fun _ => by omega⟩
          refine ⟨w', by simpa using hr, hu'.st hs hb hk hal ?_, hu'.ext hb hk hal hs.nf, rfl⟩
          obtain ⟨e'', f', b1, b2⟩ := hu'.at_
          rw [a1] at b1
          cases b1
          refine ⟨_, _, _, b2, by rw [hu'.sz]; exact a2, by rw [hu'.sz]; simp [Sh.n]; omega, fun i hi => ⟨[.int k' l[i]], rfl, fun j hj => ?_, rfl⟩⟩
          simp only [Sh.n] at hj ⊢
          obtain rfl : j = 0 := by omega
          rw [← Array.getElem?_toList, setL_arr, setL_get _ _ _ _ (by simp; omega), if_pos (by simp; exact hi)]
          simp [hi]
        · cases h
      · cases h
    · cases h
  | _ => exact gen h

theorem newCells_ok (hs : St base σ pb w) {cs : List PV} {ys : List Value} (hr : CRs σ pb w cs ys) (t : TypeId) :
    ∃ pb', St base (newCells σ cs).σ pb' (pushW w (.cells ys.toArray t)) ∧ Ext σ pb w (newCells σ cs).σ pb' (pushW w (.cells ys.toArray t)) ∧ VR (newCells σ cs).σ pb' (pushW w (.cells ys.toArray t)) (newCells σ cs).pv (.pointer (some ⟨w.heap.size, 0, none⟩)) := by
  obtain ⟨he, hst⟩ := push_place hs (.cells cs) (.cells ys.toArray t) (fun σ' pb' he => ⟨ys.toArray, t, (0, 0), pushW_new _ _, fun o _ h => by omega, by simpa using hr.ext he⟩)
  refine ⟨_, hst, he, by simp [newCells], w.heap.size, rfl, fun cs' _ => ?_⟩
  rw [List.getElem?_append_right (by rw [hs.len]; exact Nat.le_refl _), hs.len]
  simp
theorem newArr_ok (hs : St base σ pb w) (k : IntKind) (n : Nat) (l : List Int) (c : Bool) (hn : l.length = n) (t : TypeId) :
    ∃ pb', St base (newArr σ k n l c).σ pb' (pushW w (.cells (l.map (Value.int k)).toArray t)) ∧ Ext σ pb w (newArr σ k n l c).σ pb' (pushW w (.cells (l.map (Value.int k)).toArray t)) ∧
      VR (newArr σ k n l c).σ pb' (pushW w (.cells (l.map (Value.int k)).toArray t)) (newArr σ k n l c).pv (.pointer (some ⟨w.heap.size, 0, none⟩)) := by
  obtain ⟨he, hst⟩ := push_place hs (.rows (.int k) l 0) (.cells (l.map (Value.int k)).toArray t) (fun σ' pb' he => by
    refine ⟨_, t, (0, 0), pushW_new _ _, fun o _ h => by omega, by simp [Sh.n], fun i hi => ⟨[.int k l[i]], rfl, fun j hj => ?_, rfl⟩⟩
    simp only [Sh.n] at hj ⊢
    have : j = 0 := by omega
    subst this
    have hi' : i < List.length (α := Int) l := hi
    simp [hi'])
  refine ⟨_, hst, he, by simp [newArr], w.heap.size, 0, rfl, fun r xs g' hk => ?_⟩
  simp only [newArr] at hk
  rw [List.getElem?_append_right (Nat.le_refl _)] at hk
  simp at hk
  obtain ⟨rfl, hk, rfl⟩ := hk
  obtain rfl := eq_of_heq hk
  refine ⟨Nat.le_refl _, fun _ => ⟨?_, by simp [hn], by simp⟩⟩
  rw [List.getElem?_append_right (by rw [hs.len]; exact Nat.le_refl _), hs.len]
  simp

theorem newVar_run (t : TypeId) (v : Value) : (newVar t v).run P w = .ok ⟨w.heap.size, 0, none⟩ (pushW w (.cells v.cells t)) := rfl

theorem alloc_ok {t : TypeId} {tr : Tri} (h : oAlloc P t σ = some tr) (hs : St base σ pb w) : SemOk P base σ pb w (Instr.alloc t true (.tuple #[])) tr := by
  unfold oAlloc at h
  cases hz : zeroOf P t with
  | none => rw [hz] at h; cases h
  | some z =>
    rw [hz] at h
    have hrun : (Instr.alloc t true (.tuple #[])).run P w = .ok (.pointer (some ⟨w.heap.size, 0, none⟩)) (pushW w (.cells z.cells t)) := by
      unfold Instr.alloc
      rw [Sem.run_bind, zero_run hz, Result.andThen_ok]
      rfl
    have gen : some (newCells σ (zeroCellsP z)) = some tr → SemOk P base σ pb w (Instr.alloc t true (.tuple #[])) tr := by
      intro h
      cases h
      have hr : CRs σ pb w (zeroCellsP z) z.cells.toList := by
        cases z with
        | agg cs => exact CRs.map_v' _ _ _ _
        | _ => exact ⟨rfl, trivial⟩
      obtain ⟨pb', a1, a2, a3⟩ := newCells_ok hs hr t
      exact ⟨pb', _, _, hrun, by simpa using a1, by simpa using a2, by simpa using a3⟩
    simp only at h
    cases hu : P.underlying t with
    | none => rw [hu] at h; cases h
    | some d =>
      rw [hu] at h
      have hzs : ∀ (k : IntKind) (l : List Value), isZeros k l = true → l = (List.replicate l.length (0 : Int)).map (Value.int k) := by
        intro k l
        induction l with
        | nil => intro _; rfl
        | cons v l ih =>
          intro h
          unfold isZeros at h
          split at h
          · cases h
            rename_i e0
            cases e0
          · rename_i e1
            cases e1
            simp only [Bool.and_eq_true, decide_eq_true_eq] at h
            obtain ⟨rfl, h⟩ := h
            simp only [List.length_cons, List.replicate_succ, List.map_cons]
            rw [← ih h]
          · cases h
      have row : ∀ (k : IntKind) (zs : Array Value) (n : Nat), z = .agg zs → isZeros k zs.toList = true → zs.size = n → SemOk P base σ pb w (Instr.alloc t true (.tuple #[])) (newArr σ k n (List.replicate n (0 : Int)) true) := by
        intro k zs n hz hc hn
        subst hz
        have e1 := hzs k _ hc
        obtain ⟨pb', a1, a2, a3⟩ := newArr_ok hs k n (List.replicate n (0 : Int)) true (by simp) t
        have e2 : zs = ((List.replicate n (0 : Int)).map (Value.int k)).toArray := by
          apply Array.ext'
          rw [e1]
          simp [hn]
        rw [← e2] at a1 a2 a3
        exact ⟨pb', _, _, hrun, a1, a2, a3⟩
      cases d with
      | array n e =>
        simp only at h
        split at h
        · rename_i k zs hk
          split at h
          · rename_i hc
            cases h
            exact row k zs n rfl hc.1 hc.2
          · cases h
        · cases h
      | struct fs =>
        simp only at h
        split at h
        · rename_i k hk
          split at h
          · rename_i zs
            split at h
            · rename_i hc
              cases h
              exact row k zs _ rfl hc rfl
            · cases h
          · cases h
        · exact gen h
      | _ => exact gen h

theorem numsOf_spec {k : IntKind} : ∀ {cs : List PV} {l : List Int} {ys : List Value}, numsOf k cs = some l → CRs σ pb w cs ys → ys = l.map (Value.int k) := by
  intro cs
  induction cs with
  | nil => intro l ys h hr; cases h; cases ys with
    | nil => rfl
    | cons => exact hr.elim
  | cons c cs ih =>
    intro l ys h hr
    unfold numsOf at h
    split at h
    · rename_i e; cases e
    · rename_i k' n r e
      cases e
      split at h
      · rename_i ek
        subst ek
        split at h
        · rename_i l' hl
          cases h
          cases ys with
          | nil => exact hr.elim
          | cons y ys =>
            have : y = .int k' n := hr.1
            rw [this, ih hl hr.2]
            rfl
        · cases h
      · cases h
    · cases h
theorem box_ok {t : TypeId} {x : PV} {y : Value} {tr : Tri} (h : oBox P t x σ = some tr) (h1 : tr.ok = true) (hs : St base σ pb w) (hv : VR σ pb w x y) : SemOk P base σ pb w (Instr.box t y) tr := by
  have gen : (match uniT P t with
    | some k => match x with
      | .agg cs => match numsOf k cs with
        | some l => some (newArr σ k l.length l true)
        | none => none
      | _ => none
    | none => if (pvCells x).all (liveCell σ) = true then some (newCells σ (pvCells x)) else none) = some tr → SemOk P base σ pb w (Instr.box t y) tr := by
    intro h
    split at h
    · rename_i k hk
      split at h
      · rename_i cs hv
        split at h
        · rename_i l hl
          cases h
          obtain ⟨ys, rfl, hr⟩ := hv
          have e := numsOf_spec hl hr
          subst e
          obtain ⟨pb', a1, a2, a3⟩ := newArr_ok hs k l.length l true rfl t
          exact ⟨pb', _, _, rfl, a1, a2, a3⟩
        · cases h
      · cases h
    · split at h
      · rename_i hl
        cases h
        obtain ⟨ys, e, hr, _⟩ := pv_cells hl hv
        obtain ⟨pb', a1, a2, a3⟩ := newCells_ok hs hr t
        refine ⟨pb', _, _, ?_, a1, a2, a3⟩
        unfold Instr.box
        rw [Sem.run_bind, newVar_run, e]
        rfl
      · cases h
  unfold oBox at h
  cases x with
  | arr k l =>
    simp only at h
    split at h
    · cases h
      have hv : y = .agg (l.map (Value.int k)).toArray := hv
      subst hv
      obtain ⟨pb', a1, a2, a3⟩ := newArr_ok hs k _ l _ (of_decide_eq_true h1) t
      exact ⟨pb', _, _, rfl, a1, a2, a3⟩
    · cases h
  | _ => exact gen h

/-! ### structs and literals -/
theorem foldl_setArr (off : Nat) : ∀ (l : List Value) (n : Nat) (cells : Array Value), (l.zipIdx n).foldl (fun cs (p : Value × Nat) => cs.setIfInBounds (off + p.2) p.1) cells = setArr cells (off + n) l
  | [], n, cells => rfl
  | v :: l, n, cells => by
    simp only [List.zipIdx_cons, List.foldl_cons, setArr]
    rw [foldl_setArr off l (n + 1)]
    rfl
theorem fill_ok {place : Nat → Option (Nat × Nat)} : ∀ {l : List (Nat × Nat × PV)} {parts : List (Nat × Value)} {cs cs' : List PV} {ys : List Value}, fillP σ cs l = some cs' → CRs σ pb w cs ys →
    l.length = parts.length → (∀ (i o s : Nat) (p : PV), l[i]? = some (o, s, p) → ∃ n v, parts[i]? = some (n, v) ∧ place n = some (o, s) ∧ VR σ pb w p v) →
    ∃ ys' : List Value, Instr.fill place ys.toArray parts = some ys'.toArray ∧ CRs σ pb w cs' ys' := by
  intro l
  induction l with
  | nil =>
    intro parts cs cs' ys h hr hl _
    cases h
    cases parts with
    | nil => exact ⟨ys, rfl, hr⟩
    | cons => simp at hl
  | cons x l ih =>
    intro parts cs cs' ys h hr hl hp
    obtain ⟨o, s, p⟩ := x
    cases parts with
    | nil => simp at hl
    | cons q parts =>
      obtain ⟨n, v, e1, e2, hv⟩ := hp 0 o s p rfl
      simp at e1
      subst e1
      simp only [fillP] at h
      split at h
      · rename_i hc
        obtain ⟨us, u1, u2, _⟩ := pv_cells hc.2.2 hv
        have hlen := u2.length
        have hlr := hr.length
        obtain ⟨ys', a1, a2⟩ := ih (parts := parts) h (hr.setL o u2) (by simpa using hl) (fun i o s p hi => by simpa using hp (i + 1) o s p (by simpa using hi))
        refine ⟨ys', ?_, a2⟩
        unfold Instr.fill
        simp only [e2]
        rw [if_neg (by rw [u1]; simp; omega), ← a1]
        congr 1
        rw [u1]
        rw [← Array.foldl_toList, Array.toList_zipIdx]
        simp only
        have := foldl_setArr o us 0 ys.toArray
        simp only [Nat.add_zero] at this
        rw [show (us.toArray.toList.zipIdx 0) = us.zipIdx 0 by simp]
        refine Eq.trans this ?_
        apply Array.ext'
        rw [setL_arr]
      · cases h

end Go.Proofs.YtcngjidojibleaaPM
