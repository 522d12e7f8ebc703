/- Steps that may be told in another way. -/
import Derived.Test.YtcngjidojibleaaPmOps
set_option linter.unusedVariables false
set_option linter.unusedSectionVars false
set_option linter.unusedSimpArgs false
namespace Go.Proofs.YtcngjidojibleaaPM
open Go Go.RowKit
variable [Foreign]

variable {P : Program} {base : Nat} {σ : Sig} {pb : Pb} {w : World}

theorem conv_rows {s d e : TypeId} {b : ByteArray} {us : TypeDesc} (hus : P.underlying s = some us) (hd : P.underlying d = some (.slice e)) (he : P.underlying e = some (.int .u8)) (hs : St base σ pb w) :
    SemOk P base σ pb w (convert s d (.string b)) ⟨true, .rows false (.int .u8) (bytesL b), σ⟩ := by
  have hW : Push w (Lib.bytesWorld w e b) (.cells (Lib.bytesCells w e b) e ((Lib.bytesCells w e b).size, (Lib.bytesCells w e b).size + 1)) :=
    ⟨rfl, rfl, rfl, Lib.bytesWorld_size w e b, fun j hj => Lib.bytesWorld_at_old w e b j hj, Lib.bytesWorld_at_new w e b⟩
  have hlen : (bytesL b).length = b.size := by simp [bytesL]
  have hcap : b.size ≤ grownCap w b.size 0 e := by unfold grownCap; exact Nat.le_add_right _ _
  obtain ⟨h1, h2, him⟩ := push_ext' hW hs
  refine ⟨pb, _, _, Lib.run_convert_string_bytes w s d e b hus hd he, h2, h1, some ⟨w.heap.size, 0, none⟩, grownCap w b.size 0 e, by rw [hlen], by rw [hlen]; exact hcap, fun e => (by cases e), fun i hi => ?_⟩
  refine ⟨w.heap.size, 0, [.int .u8 (bytesL b)[i]], rfl, him, rfl, fun j hj => ?_, rfl⟩
  simp only [Sh.n] at hj ⊢
  have : j = 0 := by omega
  subst this
  rw [cell_mk _ _ _ hW.new]
  have hi' : i < b.data.size := by rw [hlen] at hi; exact hi
  have hi2 : i < b.size := hi'
  simp [Lib.bytesCells, Array.getElem?_append, hi', hi2, bytesL]

theorem setCells_len : ∀ (l : List PV) (cs : List PV) (o : Nat), (setCells cs o l).length = cs.length
  | [], cs, o => rfl
  | x :: r, cs, o => by simp only [setCells]; rw [setCells_len r]; simp
theorem fillP_len : ∀ {l : List (Nat × Nat × PV)} {cs cs' : List PV}, fillP σ cs l = some cs' → cs'.length = cs.length
  | [], cs, cs', h => by cases h; rfl
  | (o, s, p) :: r, cs, cs', h => by
    simp only [fillP] at h
    split at h
    · rw [fillP_len h, setCells_len]
    · cases h
theorem lit_own {t : TypeId} {n : Nat} {parts : List (Nat × PV)} {vals : List (Nat × Value)} {c full : Bool} {r : Sh} {xs : List r.den} {σ' : Sig} (h : oBuildSlice P t n parts σ = some ⟨c, .rows full r xs, σ'⟩) (hs : St base σ pb w)
    (hp : parts.length = vals.length) (hv : ∀ (i n : Nat) (p : PV), parts[i]? = some (n, p) → ∃ v, vals[i]? = some (n, v) ∧ VR σ pb w p v) : SemOk P base σ pb w (Instr.buildSlice t n vals.toArray) ⟨true, .own σ.length 0, σ ++ [.rows r xs 0]⟩ := by
  unfold oBuildSlice at h
  split at h
  · rename_i e hu
    split at h
    · rename_i r z hsh hz
      split at h
      · rename_i hc
        obtain ⟨hel, h24, hzc⟩ := hc
        obtain ⟨esz, hrn, ti, hti⟩ := elOk_spec hel
        split at h
        · rename_i cs hf
          split at h
          · rename_i xs hpa
            cases h
            have hzr : CRs σ pb w (zeroCellsP z) z.cells.toList := by
              cases z with
              | agg c => exact CRs.map_v' _ _ _ _
              | _ => exact ⟨rfl, trivial⟩
            have hzl : z.cells.toList.length = szOf P e := by rw [← hzr.length, hzc]
            have hflat : ∀ m, CRs σ pb w ((List.replicate m (zeroCellsP z)).flatten) ((List.replicate m z.cells.toList).flatten) := by
              intro m
              induction m with
              | zero => exact trivial
              | succ m ih => simp only [List.replicate_succ, List.flatten_cons]; exact hzr.append ih
            obtain ⟨ys', a1, a2⟩ := fill_ok (σ := σ) (pb := pb) (w := w) (place := fun i => some (i * szOf P e, szOf P e)) (parts := vals) hf (hflat n) (by simpa using hp) (fun i o s p hi => by
              rw [List.getElem?_map] at hi
              cases hq : parts[i]? with
              | none => rw [hq] at hi; cases hi
              | some q =>
                obtain ⟨m, p'⟩ := q
                rw [hq] at hi
                simp at hi
                obtain ⟨rfl, rfl, rfl⟩ := hi
                obtain ⟨v, v1, v2⟩ := hv i m _ hq
                exact ⟨m, v, v1, rfl, v2⟩)
            obtain ⟨hlen, hels⟩ := parseAll_els hrn n hpa a2
            have hcl : ys'.length = n * szOf P e := by
              have h1 := a2.length
              rw [← h1, fillP_len hf]
              simp [List.length_flatten, hzc]
            obtain ⟨he, hst⟩ := push_place hs (.rows r xs 0) (.cells ys'.toArray e) (fun σ' pb' he' => ⟨_, _, _, pushW_new _ _, fun o ho h => by simp only at h; omega, by simp; rw [hcl, hlen, esz]; exact Nat.le_refl _, fun i hi => by
              obtain ⟨vs, q1, q2, q3⟩ := (hels.mono he'.keeps) i hi
              exact ⟨vs, q1, fun j hj => by rw [← q2 j hj]; simp, q3⟩⟩)
            refine ⟨_, pushW w (.cells ys'.toArray e), .slice (some ⟨w.heap.size, 0, none⟩) n n, ?_, hst, he, by simp, fun r' xs' g' hk => ?_⟩
            · have hrange : ((Array.range (n * szOf P e)).map fun i => z.cells[i % z.cells.size]!) = ((List.replicate n z.cells.toList).flatten).toArray := by
                apply Array.ext'
                rw [← range_flatten z.cells.toList default n]
                simp only [Array.toList_map, Array.toList_range, hzl]
                have : z.cells.size = szOf P e := by rw [← hzl]; simp
                rw [this]
                apply List.map_congr_left
                intro i _
                simp [Array.getElem!_eq_getD, List.getD_eq_getElem?_getD, Array.getD_eq_getD_getElem?]
              unfold Instr.buildSlice
              rw [Sem.run_bind, und_run hu, Result.andThen_ok]
              simp only
              rw [Sem.run_bind, size_run hti, Result.andThen_ok]
              rw [if_neg (by omega)]
              by_cases h0 : n * szOf P e = 0
              · simp only [h0, if_true]
                have : ((List.replicate n z.cells.toList).flatten).toArray = (Array.range 0).map fun i => (#[] : Array Value)[i % 0]! := by
                  rw [← hrange, h0]; apply Array.ext'; simp
                rw [this] at a1
                simp at a1 ⊢
                simp [a1, newRow, pushW]
              · simp only [h0, if_false]
                simp [zero_run hz, hrange, a1, newRow, pushW]
            · rw [List.getElem?_append_right (Nat.le_refl _)] at hk
              simp at hk
              obtain ⟨rfl, hk, rfl⟩ := hk
              obtain rfl := eq_of_heq hk
              refine ⟨Nat.le_refl _, fun _ => .inl ⟨w.heap.size, n, ?_, by rw [hlen], by omega, ⟨_, _, _, pushW_new _ _, by simp; rw [hcl, esz]; exact Nat.le_refl _⟩⟩⟩
              rw [List.getElem?_append_right (by rw [hs.len]; exact Nat.le_refl _), hs.len]
              simp
          · cases h
        · cases h
      · cases h
    · cases h
  · cases h

/-- The beginning of an own row, as the row. -/
theorem cut_own {t e : TypeId} {r : Sh} {k g : Nat} {xs : List r.den} {q : PV} {n : Int} {y : Value} {z : Value} (hu : P.underlying t = some (.slice e)) (hel : elOk P e r = true) (hk : σ[k]? = some (.rows r xs g)) (hn : asI q = some n)
    (h0 : 0 ≤ n) (h1 : n ≤ xs.length) (hs : St base σ pb w) (hv : VR σ pb w (.own k g) y) (hz : VR σ pb w q z) :
    SemOk P base σ pb w (Instr.sliceAt t y none (some z) none) ⟨true, .own k (g + 1), σ.set k (.rows r (xs.take n.toNat) (g + 1))⟩ := by
  obtain ⟨hlt, hv⟩ := hv
  have hal : Alike (.rows r xs g) (.rows r (xs.take n.toNat) (g + 1)) := ⟨rfl, by omega, fun e => by omega⟩
  have he : Ext σ pb w (σ.set k (.rows r (xs.take n.toNat) (g + 1))) pb w := ⟨rfl, rfl, rfl, Nat.le_refl _, Keeps.refl _ _, fun b c e f h => ⟨c, f, h, rfl⟩, PlExt.set hk hal⟩
  have hself : (σ.set k (.rows r (xs.take n.toNat) (g + 1)))[k]? = some (.rows r (xs.take n.toNat) (g + 1)) := by simp [hlt]
  have hpl : ∀ o, pb[k]? = some o → PlaceR σ pb w (.rows r xs g) o → PlaceR (σ.set k (.rows r (xs.take n.toNat) (g + 1))) pb w (.rows r (xs.take n.toNat) (g + 1)) o := by
    intro o _ h
    cases o with
    | none =>
      have h : xs = [] := h
      subst h
      show List.take n.toNat [] = []
      simp
    | some b =>
      obtain ⟨c, e', f, a1, a2, a3, a4⟩ := h
      have hm : (xs.take n.toNat).length ≤ xs.length := by simp; omega
      refine ⟨c, e', f, a1, a2, Nat.le_trans (Nat.mul_le_mul_right _ hm) a3, fun i hi => ?_⟩
      obtain ⟨vs, b1, b2, b3⟩ := a4 i (by omega)
      refine ⟨vs, b1, b2, ?_⟩
      rw [List.getElem_take]
      exact b3
  have hst : St base (σ.set k (.rows r (xs.take n.toNat) (g + 1))) pb w := by
    refine ⟨hs.bs, by simpa using hs.len, hs.inj, hs.bnd, hs.frn, fun i q q' hi' hq' => ?_⟩
    by_cases eik : i = k
    · subst eik
      rw [hself] at hi'
      cases hi'
      exact hpl q' hq' (hs.pl i _ q' hk hq')
    · rw [show (σ.set k (.rows r (xs.take n.toNat) (g + 1)))[i]? = σ[i]? by simp [List.getElem?_set, Ne.symm eik]] at hi'
      exact PlaceR.ext he (fun _ _ => rfl) (hs.pl i q q' hi' hq')
  have hhi : LoIs (some z) xs.length n := high_rel (lo := some q) (l := some z) (σ := σ) (pb := pb) (w := w) hn hz
  have hlo : LoIs none 0 0 := low_rel (lo := none) (l := none) (σ := σ) (pb := pb) (w := w) rfl trivial
  rcases (hv _ _ _ hk).2 rfl with ⟨bl, cap, hb', rfl, hcap, hblk⟩ | ⟨hpb, hx, a0, rfl⟩
  · have hb := bounds_run (P := P) (w := w) true xs.length cap none (some z) 0 n hlo hhi (Int.le_refl _) h0 h1 hcap
    have hrun := slice_run (a0 := some ⟨bl, 0, none⟩) hu hel hb
    refine ⟨pb, w, _, hrun, hst, he, by simpa using hlt, fun r' xs' g' hk' => ?_⟩
    rw [hself] at hk'
    cases hk'
    refine ⟨Nat.le_refl _, fun _ => .inl ⟨bl, cap, hb', ?_, ?_, hblk⟩⟩
    · have e1 : (xs.take n.toNat).length = n.toNat := by simp; omega
      rw [e1]
      simp [add_mk]
    · simp; omega
  · subst hx
    have hn0 : n = 0 := by simp at h1; omega
    subst hn0
    have hb := bounds_run (P := P) (w := w) true 0 0 none (some z) 0 0 hlo hhi (Int.le_refl _) (Int.le_refl _) (Int.le_refl _) (Nat.le_refl _)
    have hrun := slice_run (a0 := a0) hu hel hb
    refine ⟨pb, w, _, hrun, hst, he, by simpa using hlt, fun r' xs' g' hk' => ?_⟩
    rw [hself] at hk'
    cases hk'
    exact ⟨Nat.le_refl _, fun _ => .inr ⟨hpb, by simp, a0, by simp⟩⟩

theorem oAlt_ok {f : Fr} {o : Oper} {t : Tri} (ht : oAlt P f σ o = some t) (h1 : t.ok = true) : OpOk P f σ o t.pv t.σ := by
  intro base pb w a hs hf next Q hq
  unfold oAlt at ht
  split at ht
  · rename_i s d x ho
    split at ht
    · rename_i b hx
      split at ht
      · rename_i us e hus hd
        split at ht
        · rename_i he
          cases ht
          have hy : a.eval x = .string b := by have := ev_rel hf x; rw [hx] at this; exact this
          refine fin_value (s := convert s d (a.eval x)) (by unfold execOp; rw [ho]) ?_ hq
          rw [hy]
          exact conv_rows hus hd he hs
        · cases ht
      · cases ht
    · cases ht
  · rename_i s n parts ho
    split at ht
    · rename_i c full r xs σ' hb
      cases ht
      obtain ⟨e1, e2⟩ := partsE_rel hf parts.toList
      refine fin_value (s := Instr.buildSlice s n (parts.toList.map fun p => (p.1, a.eval p.2)).toArray) ?_ (lit_own hb hs e1 e2) hq
      unfold execOp
      rw [ho]
      simp only
      congr 2
      apply Array.ext'
      simp
    · cases ht
  · rename_i t' x hi ho
    split at ht
    · rename_i k g n hx hn
      split at ht
      · rename_i e r xs g' hu hk
        split at ht
        · rename_i hc
          cases ht
          simp only [Bool.and_eq_true, decide_eq_true_eq] at h1
          obtain ⟨rfl, hel⟩ := hc
          have hv := ev_rel hf x
          rw [hx] at hv
          exact fin_value (s := Instr.sliceAt t' (a.eval x) none (some (a.eval hi)) none) (by unfold execOp; rw [ho]; rfl) (cut_own hu hel hk hn h1.1 h1.2 hs hv (ev_rel hf hi)) hq
        · cases ht
      · cases ht
    · cases ht
  · cases ht

end Go.Proofs.YtcngjidojibleaaPM
