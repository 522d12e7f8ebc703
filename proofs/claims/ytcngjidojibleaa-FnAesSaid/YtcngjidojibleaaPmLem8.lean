/- Single operations: rows that are made, conversions, append. -/
import Derived.Test.YtcngjidojibleaaPmLem7
import Derived.Lib.ConvBytes
import Derived.Laws.BytesString
set_option linter.unusedVariables false
set_option linter.unusedSectionVars false
set_option linter.unusedSimpArgs false
namespace Go.Proofs.YtcngjidojibleaaPM
open Go Go.RowKit
variable [Foreign]

variable {P : Program} {base : Nat} {σ : Sig} {pb : Pb} {w : World}

/-- A row that can be read: its cells, one behind the other. -/
def ReadR (pb : Pb) (w : World) (r : Sh) (xs : List r.den) (a : Option Addr) (ys : List Value) : Prop :=
  ys.length = xs.length * r.n ∧ (∀ p v, ys[p]? = some v → ∃ b o, a = some ⟨b, o, none⟩ ∧ w.cell? ⟨b, o + p, none⟩ = some v) ∧
  ∀ i (h : i < xs.length), ∃ vs, vs.length = r.n ∧ (∀ j, j < r.n → ys[i * r.n + j]? = vs[j]?) ∧ ER pb w r xs[i] vs

theorem read_of {r : Sh} {xs : List r.den} {a : Option Addr} (h : ∀ i (h : i < xs.length), ∃ b o vs, a = some ⟨b, o, none⟩ ∧ vs.length = r.n ∧ (∀ j, j < r.n → w.cell? ⟨b, o + i * r.n + j, none⟩ = vs[j]?) ∧ ER pb w r xs[i] vs) :
    ∃ ys, ReadR pb w r xs a ys := by
  rcases Nat.eq_zero_or_pos xs.length with h0 | h0
  · exact ⟨[], by simp [h0], fun p v hp => by simp at hp, fun i hi => by omega⟩
  · obtain ⟨b, o, _, rfl, _⟩ := h 0 h0
    have hcell : ∀ i (hi : i < xs.length), ∃ vs, vs.length = r.n ∧ (∀ j, j < r.n → w.cell? ⟨b, o + i * r.n + j, none⟩ = vs[j]?) ∧ ER pb w r xs[i] vs := by
      intro i hi
      obtain ⟨b', o', vs, e, h1, h2, h3⟩ := h i hi
      cases e
      exact ⟨vs, h1, h2, h3⟩
    have hex : ∀ p, p < xs.length * r.n → ∃ v, w.cell? ⟨b, o + p, none⟩ = some v := by
      intro p hp
      have hn : 0 < r.n := by
        rcases Nat.eq_zero_or_pos r.n with e | e
        · rw [e] at hp; simp at hp
        · exact e
      have hi : p / r.n < xs.length := by rw [Nat.div_lt_iff_lt_mul hn]; exact hp
      obtain ⟨vs, h1, h2, _⟩ := hcell _ hi
      have hj := Nat.mod_lt p hn
      have := h2 (p % r.n) hj
      rw [show o + p / r.n * r.n + p % r.n = o + p by rw [Nat.add_assoc, Nat.div_add_mod' p r.n]] at this
      rw [List.getElem?_eq_getElem (by omega)] at this
      exact ⟨_, this⟩
    refine ⟨(List.range (xs.length * r.n)).map fun p => (w.cell? ⟨b, o + p, none⟩).getD undef, by simp, fun p v hp => ⟨b, o, rfl, ?_⟩, fun i hi => ?_⟩
    · rw [List.getElem?_map] at hp
      by_cases hlt : p < xs.length * r.n
      · rw [List.getElem?_range hlt] at hp
        obtain ⟨u, hu⟩ := hex p hlt
        simp [hu] at hp
        rw [hu, hp]
      · rw [List.getElem?_eq_none (by simp; omega)] at hp
        cases hp
    · obtain ⟨vs, h1, h2, h3⟩ := hcell i hi
      refine ⟨vs, h1, fun j hj => ?_, h3⟩
      have hlt : i * r.n + j < xs.length * r.n := by
        have : (i + 1) * r.n ≤ xs.length * r.n := Nat.mul_le_mul_right _ hi
        rw [Nat.succ_mul] at this
        omega
      rw [List.getElem?_map, List.getElem?_range hlt]
      have := h2 j hj
      rw [← this]
      rw [List.getElem?_eq_getElem (by omega)] at this
      simp only [Option.map_some]
      rw [← Nat.add_assoc, this]
      rfl

theorem rowOf_read {p : PV} {r : Sh} {xs : List r.den} {y : Value} (h : rowOf σ p = some ⟨r, xs⟩) (hs : St base σ pb w) (hv : VR σ pb w p y) : ∃ a cap ys, y = .slice a xs.length cap ∧ ReadR pb w r xs a ys := by
  cases p with
  | rows full r' xs' =>
    simp only [rowOf] at h
    cases h
    obtain ⟨a, cap, rfl, _, _, hr⟩ := hv
    obtain ⟨ys, hys⟩ := read_of (a := a) (xs := xs) (fun i hi => by obtain ⟨b, o, vs, h1, _, h2, h3, h4⟩ := hr i hi; exact ⟨b, o, vs, h1, h2, h3, h4⟩)
    exact ⟨a, cap, ys, rfl, hys⟩
  | own k g =>
    simp only [rowOf] at h
    split at h
    · rename_i r' xs' g' hk
      split at h
      · rename_i hc
        cases h
        obtain ⟨hlt, hv⟩ := hv
        rcases (hv _ _ _ hk).2 hc.symm with ⟨b, cap, hb, rfl, _, _⟩ | ⟨_, hx, a, rfl⟩
        · obtain ⟨c, e, f, a1, a2, a3, a4⟩ := St.rows (hs := hs) hk hb
          obtain ⟨ys, hys⟩ := read_of (pb := pb) (w := w) (a := some ⟨b, 0, none⟩) (xs := xs) (fun i hi => by
            obtain ⟨vs, h1, h2, h3⟩ := a4 i hi
            exact ⟨b, 0, vs, rfl, h1, fun j hj => by rw [cell_mk w b _ a1, Nat.zero_add]; exact h2 j hj, h3⟩)
          exact ⟨_, cap, ys, rfl, hys⟩
        · subst hx
          exact ⟨a, 0, [], rfl, by simp, fun p v hp => by simp at hp, fun i hi => by simp at hi⟩
      · cases h
    · cases h
  | ref k i n g =>
    simp only [rowOf] at h
    split at h
    · rename_i r' xs' g' hk
      split at h
      · rename_i hc
        cases h
        obtain ⟨hlt, hv⟩ := hv
        rcases (hv _ _ _ hk).2 hc.symm with ⟨b, o, cap, hb, hle, ho, rfl, _⟩ | ⟨hx, a, rfl⟩
        · obtain ⟨c, e, f, a1, a2, a3, a4⟩ := St.rows (hs := hs) hk hb
          have hlen : ((xs'.drop i).take n).length = n := by simp; omega
          obtain ⟨ys, hys⟩ := read_of (pb := pb) (w := w) (a := some ⟨b, o, none⟩) (xs := (xs'.drop i).take n) (fun q hq => by
            rw [hlen] at hq
            obtain ⟨vs, h1, h2, h3⟩ := a4 (i + q) (by omega)
            refine ⟨b, o, vs, rfl, h1, fun j hj => ?_, ?_⟩
            · rw [ho (by omega), cell_mk w b _ a1, ← Nat.add_mul]
              exact h2 j hj
            · simpa using h3)
          exact ⟨_, cap, ys, by rw [hlen], hys⟩
        · subst hx
          exact ⟨a, 0, [], by simp, by simp, fun p v hp => by simp at hp, fun i hi => by simp at hi⟩
      · cases h
    · cases h
  | _ => cases h

theorem ReadR.load {r : Sh} {xs : List r.den} {a : Addr} {ys : List Value} (h : ReadR pb w r xs (some a) ys) : (loadCells a (xs.length * r.n)).run P w = .ok ys.toArray w := by
  rw [← h.1]
  refine run_loadCells_list _ _ _ (fun j v hj => ?_)
  obtain ⟨b, o, e, hc⟩ := h.2.1 j v hj
  cases e
  rw [add_mk]
  exact hc
theorem ReadR.first {r : Sh} {xs : List r.den} {a : Option Addr} {ys : List Value} {len cap : Nat} (h : ReadR pb w r xs a ys) : (Builtin.firstCells r.n xs.length (.slice a len cap)).run P w = .ok ys.toArray w := by
  cases a with
  | some a => exact h.load
  | none =>
    have : ys = [] := by
      cases ys with
      | nil => rfl
      | cons v ys => obtain ⟨b, o, e, _⟩ := h.2.1 0 v rfl; cases e
    subst this
    rfl

theorem read_bytes {xs : List Int} {a : Option Addr} {ys : List Value} (h : ReadR pb w (.int .u8) xs a ys) : ys = xs.map (Value.int .u8) := by
  apply List.ext_getElem?
  intro i
  have h1 := h.1
  simp only [Sh.n, Nat.mul_one] at h1
  by_cases hi : i < List.length (α := Int) xs
  · obtain ⟨vs, _, h2, h3⟩ := h.2.2 i hi
    simp only [ER] at h3
    subst h3
    have := h2 0 (by simp [Sh.n])
    simp [Sh.n] at this
    rw [this]
    simp [hi]
  · rw [List.getElem?_eq_none (by rw [h1]; omega), List.getElem?_eq_none (by simp; omega)]

theorem foldl_push : ∀ (ns : List Int) (s : ByteArray), ns.foldl (fun r n => r.push (UInt8.ofNat n.toNat)) s = ⟨s.data ++ (ns.map fun n => UInt8.ofNat n.toNat).toArray⟩
  | [], s => by simp
  | n :: ns, s => by
    rw [List.foldl_cons, foldl_push ns]
    simp [ByteArray.push]

theorem convert0_ok {s d : TypeId} {p : PV} {y : Value} {tr : Tri} (h : oConvert0 P s d p σ = some tr) (hsrc : ∃ u, P.underlying s = some u) (hs : St base σ pb w) (hv : VR σ pb w p y) : SemOk P base σ pb w (convert s d y) tr := by
  obtain ⟨us, hus⟩ := hsrc
  have rows : (match P.underlying s, P.underlying d with
      | some (.slice e), some .string => match P.underlying e with
        | some (.int .u8) => match rowOf σ p with
          | some ⟨.int .u8, xs⟩ => some (⟨true, .v (.string (strL xs)), σ⟩ : Tri)
          | _ => none
        | _ => none
      | _, _ => none) = some tr → SemOk P base σ pb w (convert s d y) tr := by
    intro h
    split at h
    · rename_i e hu1 hu2
      split at h
      · rename_i hu3
        split at h
        · rename_i xs hrow
          cases h
          obtain ⟨a, cap, ys, rfl, hread⟩ := rowOf_read hrow hs hv
          refine SemOk.stay hs (z := .string (strL xs)) ?_ rfl
          rw [run_convert_bytes_string w s d e _ _ _ hu1 hu3 hu2]
          cases a with
          | none =>
            have hx : xs = [] := by
              have := hread.1
              have h0 : ys = [] := by
                cases ys with
                | nil => rfl
                | cons v ys => obtain ⟨b, o, e, _⟩ := hread.2.1 0 v rfl; cases e
              rw [h0] at this
              simp [Sh.n] at this
              exact List.eq_nil_of_length_eq_zero this.symm
            subst hx
            rfl
          | some a =>
            have hl := hread.load (P := P)
            simp only [Sh.n, Nat.mul_one] at hl
            rw [read_bytes hread] at hl
            rw [run_bytesToString w a _ cap xs hl, foldl_push]
            simp [strL]
        · cases h
      · cases h
    · cases h
  unfold oConvert0 at h
  cases p with
  | v x =>
    have hv : y = x := hv
    subst hv
    have scalar : (match Sem.val P (convert s d y) with | some r => some (⟨true, .v r, σ⟩ : Tri) | none => none) = some tr → SemOk P base σ pb w (convert s d y) tr := by
      intro h
      split at h
      · rename_i r hr
        cases h
        exact SemOk.stay hs (val_run P _ _ w hr) rfl
      · cases h
    cases y with
    | string b =>
      simp only at h
      split at h
      · rename_i e hd
        split at h
        · rename_i he
          cases h
          have hW : Push w (Lib.bytesWorld w e b) (.cells (Lib.bytesCells w e b) e ((Lib.bytesCells w e b).size, (Lib.bytesCells w e b).size + 1)) :=
            ⟨rfl, rfl, rfl, Lib.bytesWorld_size w e b, fun j hj => Lib.bytesWorld_at_old w e b j hj, Lib.bytesWorld_at_new w e b⟩
          have hlen : (bytesL b).length = b.size := by simp [bytesL]
          have hcap : b.size ≤ grownCap w b.size 0 e := by unfold grownCap; exact Nat.le_add_right _ _
          have hsz : (Lib.bytesCells w e b).size = grownCap w b.size 0 e := by simp [Lib.bytesCells]; omega
          have hle : b.size ≤ (Lib.bytesCells w e b).size := by omega
          obtain ⟨h1, h2⟩ := push_place' hW hs (.rows (.int .u8) (bytesL b) 0) (fun σ' pb' he' => ⟨_, _, _, hW.new, fun o ho h => by simp only at h; omega, by simp only [Sh.n]; rw [hlen]; omega, fun i hi => ⟨[.int .u8 (bytesL b)[i]], rfl, fun j hj => by
            simp only [Sh.n] at hj ⊢
            have : j = 0 := by omega
            subst this
            have hi' : i < b.data.size := by rw [hlen] at hi; exact hi
            have hi2 : i < b.size := hi'
            simp [Lib.bytesCells, Array.getElem?_append, hi', hi2, bytesL], rfl⟩⟩)
          refine ⟨_, _, _, Lib.run_convert_string_bytes w s d e b hus hd he, h2, h1, by simp, fun r xs g' hk => ?_⟩
          rw [List.getElem?_append_right (Nat.le_refl _)] at hk
          simp at hk
          obtain ⟨rfl, hk, rfl⟩ := hk
          obtain rfl := eq_of_heq hk
          refine ⟨Nat.le_refl _, fun _ => .inl ⟨w.heap.size, grownCap w b.size 0 e, ?_, by rw [hlen], ?_, ?_⟩⟩
          · rw [List.getElem?_append_right (by rw [hs.len]; exact Nat.le_refl _), hs.len]
            simp
          · rw [hlen]; exact hcap
          · exact ⟨_, _, _, hW.new, by simp only [Sh.n, Nat.mul_one]; rw [hsz]; exact Nat.le_refl _⟩
        · cases h
      · rename_i hd
        cases h
        refine SemOk.stay hs (z := .string b) ?_ rfl
        simp [convert, und_run hus, und_run hd]
      · cases h
    | int k0 n =>
      simp only at h
      split at h
      · rename_i k hd
        cases h
        exact SemOk.stay hs (z := .int k (k.wrap n)) (by simp [convert, und_run hus, und_run hd, Conv.intToInt]) rfl
      · rename_i k hd
        split at h
        · rename_i r hr
          cases h
          refine SemOk.stay hs (z := r) ?_ rfl
          have := val_run P _ _ w hr
          simp [convert, und_run hus, und_run hd, this]
        · cases h
      · cases h
    | _ => exact scalar h
  | _ => exact rows h

theorem convert_ok {s d : TypeId} {p : PV} {y : Value} {tr : Tri} (h : oConvert P s d p σ = some tr) (hs : St base σ pb w) (hv : VR σ pb w p y) : SemOk P base σ pb w (convert s d y) tr := by
  unfold oConvert at h
  split at h
  · rename_i u hu; exact convert0_ok h ⟨u, hu⟩ hs hv
  · cases h

end Go.Proofs.YtcngjidojibleaaPM
