/- Single operations: made rows, literals of slices. -/
import Derived.Test.YtcngjidojibleaaPmLem9
set_option linter.unusedVariables false
set_option linter.unusedSectionVars false
set_option linter.unusedSimpArgs false
namespace Go.Proofs.YtcngjidojibleaaPM
open Go Go.RowKit
variable [Foreign]

variable {P : Program} {base : Nat} {σ : Sig} {pb : Pb} {w : World}

theorem wrap_small {n : Int} (h0 : 0 ≤ n) (h1 : n < 9223372036854775808) : IntKind.i64.wrap n = n := by
  simp only [IntKind.wrap, IntKind.bits, IntKind.signed]
  have : n % (2 ^ 64 : Int) = n := by omega
  simp only [this]
  split
  · rename_i h; simp at h; omega
  · rfl

theorem range_flatten (zc : List Value) (d : Value) : ∀ n, (List.range (n * zc.length)).map (fun i => zc.getD (i % zc.length) d) = (List.replicate n zc).flatten := by
  intro n
  induction n with
  | zero => simp
  | succ n ih =>
    rw [List.replicate_succ', List.flatten_append, ← ih, Nat.succ_mul, List.range_add]
    simp only [List.map_append, List.map_map, List.flatten_singleton]
    congr 1
    apply List.ext_getElem?
    intro i
    rw [List.getElem?_map]
    by_cases hi : i < zc.length
    · rw [List.getElem?_range hi]
      simp [Nat.add_mod, Nat.mod_eq_of_lt hi, hi]
    · rw [List.getElem?_eq_none (by simp; omega), List.getElem?_eq_none (by omega)]
      rfl

theorem parseAll_els {r : Sh} (hn : r.n ≠ 0) : ∀ (n : Nat) {cs : List PV} {xs : List r.den} {ys : List Value}, parseAll r n cs = some xs → CRs σ pb w cs ys → xs.length = n ∧ Els pb w r xs ys := by
  intro n
  induction n with
  | zero => intro cs xs ys h _; cases h; exact ⟨rfl, fun i hi => by simp at hi⟩
  | succ n ih =>
    intro cs xs ys h hr
    simp only [parseAll] at h
    split at h
    · rename_i x t hp
      split at h
      · rename_i l hl
        cases h
        obtain ⟨u, v, rfl, e1, e2⟩ := parse_er hp hr
        obtain ⟨h1, h2⟩ := ih hl e2
        refine ⟨by simp [h1], fun i hi => ?_⟩
        cases i with
        | zero => exact ⟨u, e1.len, fun j hj => by rw [Nat.zero_mul, Nat.zero_add, List.getElem?_append_left (by rw [e1.len]; exact hj)], e1⟩
        | succ i =>
          obtain ⟨vs, a1, a2, a3⟩ := h2 i (by simpa using hi)
          refine ⟨vs, a1, fun j hj => ?_, by simpa using a3⟩
          rw [List.getElem?_append_right (by rw [e1.len, Nat.succ_mul]; omega), ← a2 j hj, e1.len, Nat.succ_mul]
          congr 1
          omega
      · cases h
    · cases h

theorem rep_els {r : Sh} {x : r.den} {zc : List Value} (hx : ER pb w r x zc) : ∀ n, Els pb w r (List.replicate n x) ((List.replicate n zc).flatten) := by
  intro n
  induction n with
  | zero => intro i hi; simp at hi
  | succ n ih =>
    intro i hi
    rw [List.replicate_succ, List.flatten_cons]
    cases i with
    | zero => exact ⟨zc, hx.len, fun j hj => by rw [Nat.zero_mul, Nat.zero_add, List.getElem?_append_left (by rw [hx.len]; exact hj)], by simpa [List.replicate_succ] using hx⟩
    | succ i =>
      obtain ⟨vs, a1, a2, a3⟩ := ih i (by simpa using hi)
      refine ⟨vs, a1, fun j hj => ?_, by simpa [List.replicate_succ] using a3⟩
      rw [List.getElem?_append_right (by rw [hx.len, Nat.succ_mul]; omega), ← a2 j hj, hx.len, Nat.succ_mul]
      congr 1
      omega
theorem makeSlice2_ok {t e : TypeId} {n m : Int} {k1 k2 : IntKind} {tr : Tri} (hu : P.underlying t = some (.slice e)) (h : oMakeSlice2 P e n m σ = some tr) (h1 : tr.ok = true) (hs : St base σ pb w) : SemOk P base σ pb w (Instr.makeSlice t (.int k1 n) (.int k2 m)) tr := by
  unfold oMakeSlice2 at h
  split at h
  · rename_i z ie r hz hi hsh
    split at h
    · rename_i x hpa
      split at h
      · rename_i hc
        obtain ⟨hel, hby⟩ := hc
        cases h
        simp only [Bool.and_eq_true, decide_eq_true_eq] at h1
        obtain ⟨h0, hlt, rfl⟩ := h1
        have hlt := smallI_lt hlt
        obtain ⟨esz, hrn, ti, hti⟩ := elOk_spec hel
        have hiz : ie.zero = some z := by unfold zeroOf at hz; rw [hi] at hz; exact hz
        have hzr : CRs σ pb w (zeroCellsP z) z.cells.toList := by
          cases z with
          | agg c => exact CRs.map_v' _ _ _ _
          | _ => exact ⟨rfl, trivial⟩
        obtain ⟨u, v, e1, e2, e3⟩ := parse_er hpa hzr
        have hv0 : v = [] := by
          cases v with
          | nil => rfl
          | cons a v => exact e3.elim
        rw [hv0, List.append_nil] at e1
        have hzl : z.cells.toList.length = r.n := by rw [e1]; exact e2.len
        have hsz : ie.size = r.n := by rw [← esz]; unfold szOf; rw [hi]
        have hzsz : z.cells.size = r.n := by rw [← hzl]; simp
        have hrange : ∀ N : Nat, ((Array.range (N * r.n)).map fun i => z.cells[i % z.cells.size]!) = ((List.replicate N u).flatten).toArray := by
          intro N
          apply Array.ext'
          rw [← e1, ← range_flatten z.cells.toList default N]
          simp only [Array.toList_map, Array.toList_range, hzl, hzsz]
          apply List.map_congr_left
          intro i _
          simp [Array.getElem!_eq_getD, List.getD_eq_getElem?_getD, Array.getD_eq_getD_getElem?]
        have hrun : (Instr.makeSlice t (.int k1 n) (.int k2 n)).run P w = .ok (.slice (some ⟨w.heap.size, 0, none⟩) n.toNat n.toNat) (pushW w (.cells ((List.replicate n.toNat u).flatten).toArray e)) := by
          have hw := wrap_small (n := n) h0 (by omega)
          have hb : (ie.bytes : Int) * n ≤ 281474976710656 := by
            have : (ie.bytes : Int) * n ≤ 1000 * n := Int.mul_le_mul_of_nonneg_right (by omega) h0
            omega
          unfold Instr.makeSlice
          rw [Sem.run_bind, und_run hu, Result.andThen_ok]
          simp only [asInt, asIntOf, typeInfo]
          by_cases hN : n.toNat = 0
          · have hn0 : n = 0 := by omega
            subst hn0
            simp [hi, hw, hsz, sizeOf, typeInfo, newRow, pushW]
            congr 2
            apply Array.ext'
            simp
          · have hN2 : ¬ n.toNat * r.n = 0 := by
              intro h
              rcases Nat.mul_eq_zero.1 h with h | h
              · exact hN h
              · exact hrn h
            have e4 : ¬ (n < 0) := by omega
            have e5 : ¬ (281474976710656 < (ie.bytes : Int) * n) := by omega
            simp only [hi, Sem.run_bind, Sem.run_pure, Result.andThen_ok, hw, sizeOf, typeInfo, hsz]
            simp [hi, hsz, hN2, zeroValue, typeInfo, hiz, e4, e5, newRow, hrange]
            rfl
        obtain ⟨h2, h3⟩ := push_place hs (.rows r (List.replicate n.toNat x) 0) (.cells ((List.replicate n.toNat u).flatten).toArray e) (fun σ' pb' he => by
          refine ⟨_, e, (0, 0), pushW_new _ _, fun o _ h => by omega, by simp [e2.len, List.length_flatten], fun i hi => ?_⟩
          obtain ⟨vs, q1, q2, q3⟩ := ((rep_els e2 n.toNat).mono he.keeps) i hi
          exact ⟨vs, q1, fun j hj => by rw [← q2 j hj]; simp, q3⟩)
        refine ⟨_, _, _, hrun, h3, h2, by simp, fun r' xs g' hk => ?_⟩
        rw [List.getElem?_append_right (Nat.le_refl _)] at hk
        simp at hk
        obtain ⟨rfl, hk, rfl⟩ := hk
        obtain rfl := eq_of_heq hk
        refine ⟨Nat.le_refl _, fun _ => .inl ⟨w.heap.size, n.toNat, ?_, by simp, by simp, ⟨_, _, _, pushW_new _ _, by simp [e2.len, List.length_flatten]⟩⟩⟩
        rw [List.getElem?_append_right (by rw [hs.len]; exact Nat.le_refl _), hs.len]
        simp
      · cases h
    · cases h
  · cases h

theorem makeSlice_ok {t : TypeId} {p q : PV} {y z : Value} {tr : Tri} (h : oMakeSlice P t p q σ = some tr) (h1 : tr.ok = true) (hs : St base σ pb w) (hvp : VR σ pb w p y) (hvq : VR σ pb w q z) : SemOk P base σ pb w (Instr.makeSlice t y z) tr := by
  unfold oMakeSlice at h
  split at h
  · rename_i n m hn hm
    obtain ⟨k1, rfl⟩ := asI_rel hn hvp
    obtain ⟨k2, rfl⟩ := asI_rel hm hvq
    split at h
    · rename_i e hu
      split at h
      · rename_i k k' ie he hz hi
        split at h
        · rename_i hc
          obtain ⟨rfl, hsz, hby⟩ := hc
          cases h
          simp only [Bool.and_eq_true, decide_eq_true_eq] at h1
          obtain ⟨h0, hlt, rfl⟩ := h1
          have hlt := smallI_lt hlt
          have hsz' : ie.size = 1 := by unfold szOf at hsz; rw [hi] at hsz; exact hsz
          have hiz : ie.zero = some (.int k' 0) := by unfold zeroOf at hz; rw [hi] at hz; exact hz
          have hcells : ∀ N : Nat, ((Array.range N).map fun i => (#[Value.int k' 0] : Array Value)[i % (#[Value.int k' 0] : Array Value).size]!) = ((List.replicate N (0 : Int)).map (Value.int k')).toArray := by
            intro N
            apply Array.ext'
            simp only [Array.toList_map, Array.toList_range]
            apply List.ext_getElem?
            intro i
            simp only [List.getElem?_map]
            by_cases hi : i < N
            · rw [List.getElem?_range hi, List.getElem?_replicate_of_lt hi]
              simp [Nat.mod_one]
            · rw [List.getElem?_eq_none (by simp; omega), List.getElem?_eq_none (by simp; omega)]
              rfl
          have hrun : (Instr.makeSlice t (.int k1 n) (.int k2 n)).run P w = .ok (.slice (some ⟨w.heap.size, 0, none⟩) n.toNat n.toNat) (pushW w (.cells ((List.replicate n.toNat (0 : Int)).map (Value.int k')).toArray e)) := by
            have hw := wrap_small (n := n) h0 (by omega)
            have hb : (ie.bytes : Int) * n ≤ 281474976710656 := by
              have : (ie.bytes : Int) * n ≤ 8 * n := Int.mul_le_mul_of_nonneg_right (by omega) h0
              omega
            unfold Instr.makeSlice
            rw [Sem.run_bind, und_run hu, Result.andThen_ok]
            simp only [asInt, asIntOf, typeInfo]
            by_cases hN : n.toNat = 0
            · have hn0 : n = 0 := by omega
              subst hn0
              simp [hi, hw, hsz', sizeOf, typeInfo, newRow, pushW]
              congr 2
              apply Array.ext'
              simp
            · simp [hi, hw, hsz', hN, sizeOf, typeInfo, zeroValue, hiz, Value.cells]
              have e1 : ¬ (n < 0) := by omega
              have e2 : ¬ (281474976710656 < (ie.bytes : Int) * n) := by omega
              simp [e1, e2, newRow]
              show pushW w _ = pushW w _
              congr 2
              apply Array.ext'
              simp only [Array.toList_map, Array.toList_range, Array.toList_replicate]
              apply List.ext_getElem?
              intro i
              rw [List.getElem?_map]
              by_cases hlt' : i < n.toNat
              · rw [List.getElem?_range hlt', List.getElem?_replicate_of_lt hlt']
                simp [Nat.mod_one]
              · rw [List.getElem?_eq_none (by simp; omega), List.getElem?_eq_none (by simp; omega)]
                rfl
          obtain ⟨h2, h3⟩ := push_place hs (.rows (.int k') (List.replicate n.toNat (0 : Int)) 0) (.cells ((List.replicate n.toNat (0 : Int)).map (Value.int k')).toArray e) (fun σ' pb' he => by
            refine ⟨_, e, (0, 0), pushW_new _ _, fun o _ h => by omega, by simp [Sh.n], fun i hi => ⟨[.int k' (List.replicate n.toNat (0 : Int))[i]], rfl, fun j hj => ?_, rfl⟩⟩
            simp only [Sh.n] at hj ⊢
            have : j = 0 := by omega
            subst this
            have hi' : i < n.toNat := by simpa using hi
            simp [hi'])
          refine ⟨_, _, _, hrun, h3, h2, by simp, fun r xs g' hk => ?_⟩
          rw [List.getElem?_append_right (Nat.le_refl _)] at hk
          simp at hk
          obtain ⟨rfl, hk, rfl⟩ := hk
          obtain rfl := eq_of_heq hk
          refine ⟨Nat.le_refl _, fun _ => .inl ⟨w.heap.size, n.toNat, ?_, by simp, by simp, ⟨_, _, _, pushW_new _ _, by simp [Sh.n]⟩⟩⟩
          rw [List.getElem?_append_right (by rw [hs.len]; exact Nat.le_refl _), hs.len]
          simp
        · cases h
      · exact makeSlice2_ok hu h h1 hs
    · cases h
  · cases h

theorem buildSlice_ok {t : TypeId} {n : Nat} {parts : List (Nat × PV)} {vals : List (Nat × Value)} {tr : Tri} (h : oBuildSlice P t n parts σ = some tr) (hs : St base σ pb w)
    (hp : parts.length = vals.length) (hv : ∀ (i n : Nat) (p : PV), parts[i]? = some (n, p) → ∃ v, vals[i]? = some (n, v) ∧ VR σ pb w p v) : SemOk P base σ pb w (Instr.buildSlice t n vals.toArray) tr := by
  unfold oBuildSlice at h
  split at h
  · rename_i e hu
    split at h
    · rename_i r z hsh hz
      split at h
      · rename_i hc
        obtain ⟨hel, h24, hzc⟩ := hc
        obtain ⟨esz, hrn, ti, hti⟩ := elOk_spec hel
        split at h
        · rename_i cs hf
          split at h
          · rename_i xs hpa
            cases h
            have hzr : CRs σ pb w (zeroCellsP z) z.cells.toList := by
              cases z with
              | agg c => exact CRs.map_v' _ _ _ _
              | _ => exact ⟨rfl, trivial⟩
            have hzl : z.cells.toList.length = szOf P e := by rw [← hzr.length, hzc]
            have hflat : ∀ m, CRs σ pb w ((List.replicate m (zeroCellsP z)).flatten) ((List.replicate m z.cells.toList).flatten) := by
              intro m
              induction m with
              | zero => exact trivial
              | succ m ih => simp only [List.replicate_succ, List.flatten_cons]; exact hzr.append ih
            obtain ⟨ys', a1, a2⟩ := fill_ok (σ := σ) (pb := pb) (w := w) (place := fun i => some (i * szOf P e, szOf P e)) (parts := vals) hf (hflat n) (by simpa using hp) (fun i o s p hi => by
              rw [List.getElem?_map] at hi
              cases hq : parts[i]? with
              | none => rw [hq] at hi; cases hi
              | some q =>
                obtain ⟨m, p'⟩ := q
                rw [hq] at hi
                simp at hi
                obtain ⟨rfl, rfl, rfl⟩ := hi
                obtain ⟨v, v1, v2⟩ := hv i m _ hq
                exact ⟨m, v, v1, rfl, v2⟩)
            obtain ⟨hlen, hels⟩ := parseAll_els hrn n hpa a2
            obtain ⟨he, hst, him⟩ := push_ext hs (.cells ys'.toArray e)
            have hels := hels.mono he.keeps
            refine ⟨pb, pushW w (.cells ys'.toArray e), .slice (some ⟨w.heap.size, 0, none⟩) n n, ?_, hst, he, some ⟨w.heap.size, 0, none⟩, n, by rw [hlen], by omega, fun _ => by omega, fun i hi => ?_⟩
            · have hrange : ((Array.range (n * szOf P e)).map fun i => z.cells[i % z.cells.size]!) = ((List.replicate n z.cells.toList).flatten).toArray := by
                apply Array.ext'
                rw [← range_flatten z.cells.toList default n]
                simp only [Array.toList_map, Array.toList_range, hzl]
                have : z.cells.size = szOf P e := by rw [← hzl]; simp
                rw [this]
                apply List.map_congr_left
                intro i _
                simp [Array.getElem!_eq_getD, List.getD_eq_getElem?_getD, Array.getD_eq_getD_getElem?]
              unfold Instr.buildSlice
              rw [Sem.run_bind, und_run hu, Result.andThen_ok]
              simp only
              rw [Sem.run_bind, size_run hti, Result.andThen_ok]
              rw [if_neg (by omega)]
              by_cases h0 : n * szOf P e = 0
              · simp only [h0, if_true]
                have : ((List.replicate n z.cells.toList).flatten).toArray = (Array.range 0).map fun i => (#[] : Array Value)[i % 0]! := by
                  rw [← hrange, h0]; apply Array.ext'; simp
                rw [this] at a1
                simp at a1 ⊢
                simp [a1, newRow, pushW]
              · simp only [h0, if_false]
                simp [zero_run hz, hrange, a1, newRow, pushW]
            · obtain ⟨vs, q1, q2, q3⟩ := hels i hi
              refine ⟨w.heap.size, 0, vs, rfl, him, q1, fun j hj => ?_, q3⟩
              rw [cell_mk _ _ _ (pushW_new _ _), Nat.zero_add, ← q2 j hj]
              simp
          · cases h
        · cases h
      · cases h
    · cases h
  · cases h

end Go.Proofs.YtcngjidojibleaaPM
