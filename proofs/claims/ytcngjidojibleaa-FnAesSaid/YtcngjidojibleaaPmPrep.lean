/- States made ready: rows that are let go, rows out of nothing, and states read by patterns. -/
import Derived.Test.YtcngjidojibleaaPmDraw2
import Derived.Test.YtcngjidojibleaaPmFrame
set_option linter.unusedVariables false
set_option linter.unusedSectionVars false
set_option linter.unusedSimpArgs false
namespace Go.Proofs.YtcngjidojibleaaPM
open Go Go.RowKit

/-- What a piece of code leaves alone of the first n places: rows may have moved, cells do not. -/
structure ExtN [Foreign] (n : Nat) (σ : Sig) (pb : Pb) (w : World) (σ' : Sig) (pb' : Pb) (w' : World) : Prop where
  os : w'.os = w.os
  tape : w'.tape = w.tape
  output : w'.output = w.output
  size : w.heap.size ≤ w'.heap.size
  keeps : Keeps pb w pb' w'
  shp : ∀ (b : Nat) (c : Array Value) (e : TypeId) (f : Nat × Nat), w.heap[b]? = some (.cells c e f) → ∃ (c' : Array Value) (f' : Nat × Nat), w'.heap[b]? = some (.cells c' e f') ∧ c'.size = c.size
  len0 : n ≤ σ.length
  len : n ≤ σ'.length
  cel : ∀ k, k < n → ∀ cs', σ'[k]? = some (.cells cs') → (∃ cs, σ[k]? = some (.cells cs)) ∧ pb'[k]? = pb[k]?
  rws : ∀ k, k < n → ∀ r xs' g', σ'[k]? = some (.rows r xs' g') → ∃ xs g, σ[k]? = some (.rows r xs g)
  sty : ∀ k, k < n → ∀ r xs', σ'[k]? = some (.rows r xs' 0) → ∃ xs, σ[k]? = some (.rows r xs 0) ∧ xs.length = xs'.length ∧ pb'[k]? = pb[k]?
abbrev ExtW [Foreign] (σ : Sig) (pb : Pb) (w : World) (σ' : Sig) (pb' : Pb) (w' : World) : Prop := ExtN σ.length σ pb w σ' pb' w'

section
variable [Foreign]
theorem Ext.weak {σ : Sig} {pb : Pb} {w : World} {σ' : Sig} {pb' : Pb} {w' : World} (h : Ext σ pb w σ' pb' w') : ExtW σ pb w σ' pb' w' :=
  ⟨h.os, h.tape, h.output, h.size, h.keeps, h.shp, Nat.le_refl _, h.pls.1, fun k hk cs hc => (h.pls.2 k hk).1 cs hc, fun k hk r xs g hr => by
    obtain ⟨xs', g', h1, _⟩ := (h.pls.2 k hk).2 r xs g hr
    exact ⟨xs', g', h1⟩, fun k hk r xs hr => by
    obtain ⟨xs', g', h1, h2, h3⟩ := (h.pls.2 k hk).2 r xs 0 hr
    obtain rfl : g' = 0 := by omega
    exact ⟨xs', h1, h3 rfl⟩⟩
theorem ExtN.less {n m : Nat} {σ : Sig} {pb : Pb} {w : World} {σ' : Sig} {pb' : Pb} {w' : World} (h : ExtN n σ pb w σ' pb' w') (hm : m ≤ n) : ExtN m σ pb w σ' pb' w' :=
  ⟨h.os, h.tape, h.output, h.size, h.keeps, h.shp, Nat.le_trans hm h.len0, Nat.le_trans hm h.len, fun k hk => h.cel k (Nat.lt_of_lt_of_le hk hm), fun k hk => h.rws k (Nat.lt_of_lt_of_le hk hm), fun k hk => h.sty k (Nat.lt_of_lt_of_le hk hm)⟩
theorem ExtW.refl (σ : Sig) (pb : Pb) (w : World) : ExtW σ pb w σ pb w := (Ext.refl σ pb w).weak
theorem ExtN.trans {n : Nat} {σ σ' σ'' : Sig} {pb pb' pb'' : Pb} {w w' w'' : World} (h : ExtN n σ pb w σ' pb' w') (k : ExtN n σ' pb' w' σ'' pb'' w'') : ExtN n σ pb w σ'' pb'' w'' where
  os := k.os.trans h.os
  tape := k.tape.trans h.tape
  output := k.output.trans h.output
  size := Nat.le_trans h.size k.size
  keeps := h.keeps.trans k.keeps
  shp := fun b c e f hb => by
    obtain ⟨c', f', h1, e1⟩ := h.shp b c e f hb
    obtain ⟨c'', f'', h2, e2⟩ := k.shp b c' e f' h1
    exact ⟨c'', f'', h2, e2.trans e1⟩
  len0 := h.len0
  len := k.len
  cel := fun i hi cs hc => by
    obtain ⟨⟨cs', h1⟩, e1⟩ := k.cel i hi cs hc
    obtain ⟨h2, e2⟩ := h.cel i hi cs' h1
    exact ⟨h2, e1.trans e2⟩
  rws := fun i hi r xs g hr => by
    obtain ⟨xs', g', h1⟩ := k.rws i hi r xs g hr
    exact h.rws i hi r xs' g' h1
  sty := fun i hi r xs hr => by
    obtain ⟨xs', h1, e1, e2⟩ := k.sty i hi r xs hr
    obtain ⟨xs'', h2, e3, e4⟩ := h.sty i hi r xs' h1
    exact ⟨xs'', h2, e3.trans e1, e2.trans e4⟩
theorem ExtW.trans {σ σ' σ'' : Sig} {pb pb' pb'' : Pb} {w w' w'' : World} (h : ExtW σ pb w σ' pb' w') (k : ExtW σ' pb' w' σ'' pb'' w'') : ExtW σ pb w σ'' pb'' w'' :=
  ExtN.trans h (k.less h.len)

/-! ### letting a row go -/
theorem place_rows {base : Nat} {σ : Sig} {pb pb' : Pb} {w : World} {k b g : Nat} {r : Sh} {xs : List r.den} (hs : St base σ pb w) (hk : σ[k]? = some (.rows r xs g)) (hb : pb[k]? = some (some b))
    (him : Im pb' w b) (hm : ∀ (x : r.den) (vs : List Value), ER pb w r x vs → ER pb' w r x vs) {i n o : Nat} (hle : i + n ≤ xs.length) (ho : 0 < n → o = i * r.n) :
    RowsR pb' w r.n (ER pb' w r) ((xs.drop i).take n) (some ⟨b, o, none⟩) := by
  obtain ⟨c, e, f, h1, h2, h3, h4⟩ := hs.pl k _ _ hk hb
  intro j hj
  have hj' : j < n := by simp at hj; omega
  have ho := ho (by omega)
  subst ho
  obtain ⟨vs, a1, a2, a3⟩ := h4 (i + j) (by omega)
  refine ⟨b, i * r.n, vs, rfl, him, a1, fun q hq => ?_, ?_⟩
  · rw [cell_mk _ _ _ h1, ← a2 q hq]
    congr 1
    rw [Nat.add_mul]
  · have : ((xs.drop i).take n)[j] = xs[i + j]'(by omega) := by simp
    rw [this]
    exact hm _ _ a3

theorem frz_ext {base : Nat} {σ : Sig} {pb : Pb} {w : World} {k g : Nat} {r : Sh} {xs : List r.den} (hs : St base σ pb w) (hk : σ[k]? = some (.rows r xs g)) :
    Ext σ pb w ((σ.map (frzP k g r xs)).set k .dead) (pb.set k none) w := by
  have hsub : ∀ b : Nat, some b ∈ pb.set k none → some b ∈ pb := by
    intro b hb
    obtain ⟨j, hj, e⟩ := List.getElem_of_mem hb
    rw [List.getElem_set] at e
    split at e
    · cases e
    · rw [← e]; exact List.getElem_mem _
  refine ⟨rfl, rfl, rfl, Nat.le_refl _, ⟨fun b hb => ⟨⟨hb.1, fun h => hb.2.1 (hsub b h), hb.2.2⟩, rfl⟩, fun _ _ => rfl⟩, fun b c e f h => ⟨c, f, h, rfl⟩, by simp, fun j hj => ?_⟩
  by_cases e : k = j
  · subst e
    rw [List.getElem?_set_self (by simpa using hj)]
    exact ⟨fun cs h => (by cases h), fun r' ys g' h => (by cases h)⟩
  · rw [List.getElem?_set_ne e, List.getElem?_set_ne e, List.getElem?_map]
    cases hq : σ[j]? with
    | none => exact ⟨fun cs h => (by cases h), fun r' ys g' h => (by cases h)⟩
    | some q =>
      cases q with
      | cells cs => exact ⟨fun cs' h => ⟨⟨_, rfl⟩, rfl⟩, fun r' ys g' h => (by simp [frzP] at h)⟩
      | rows r' ys g' =>
        refine ⟨fun cs' h => (by simp [frzP] at h), fun r2 zs g2 h => ?_⟩
        simp only [Option.map_some, frzP, Option.some.injEq] at h
        cases h
        exact ⟨ys, g', rfl, Nat.le_refl _, fun _ => ⟨rfl, rfl⟩⟩
      | dead => exact ⟨fun cs' h => (by simp [frzP] at h), fun r' ys g' h => (by simp [frzP] at h)⟩

theorem frzC_ok {base : Nat} {σ : Sig} {pb : Pb} {w : World} {k g : Nat} {r : Sh} {xs : List r.den} (hs : St base σ pb w) (hk : σ[k]? = some (.rows r xs g)) {p : PV} {y : Value} (h : CR σ pb w p y) :
    CR ((σ.map (frzP k g r xs)).set k .dead) (pb.set k none) w (frzC k g r xs p) y := by
  have he := frz_ext hs hk
  have him : ∀ b : Nat, pb[k]? = some (some b) → Im (pb.set k none) w b := by
    intro b hb
    refine ⟨(hs.bnd k b hb).2, fun hm => ?_, fun hx => (hs.frn b hx).2 (List.mem_of_getElem? hb)⟩
    obtain ⟨j, hj, e⟩ := List.getElem_of_mem hm
    rw [List.getElem_set] at e
    split at e
    · cases e
    · rename_i hne
      exact hne (hs.inj k j b hb (by rw [← e]; exact List.getElem?_eq_getElem (by simpa using hj)))
  cases p with
  | own k' g' =>
    simp only [frzC]
    cases hb : Nat.beq k' k && Nat.beq g' g with
    | false => exact h.ext he
    | true =>
      rw [Bool.and_eq_true] at hb
      have e1 := Nat.eq_of_beq_eq_true hb.1
      have e2 := Nat.eq_of_beq_eq_true hb.2
      subst e1; subst e2
      obtain ⟨hlt, hv⟩ := h
      rcases (hv _ _ _ hk).2 rfl with ⟨b, cap, hb, rfl, hcap, _⟩ | ⟨_, hx, a, rfl⟩
      · refine ⟨_, cap, rfl, hcap, (fun h => (by cases h)), ?_⟩
        have := place_rows hs hk hb (him b hb) (fun x vs h => ER.mono he.keeps h) (i := 0) (n := xs.length) (o := 0) (by omega) (by simp)
        simpa using this
      · subst hx
        exact ⟨a, 0, rfl, Nat.le_refl _, (fun h => (by cases h)), fun i hi => (by simp at hi)⟩
  | ref k' i n g' =>
    simp only [frzC]
    cases hb : Nat.beq k' k && Nat.beq g' g with
    | false => exact h.ext he
    | true =>
      rw [Bool.and_eq_true] at hb
      have e1 := Nat.eq_of_beq_eq_true hb.1
      have e2 := Nat.eq_of_beq_eq_true hb.2
      subst e1; subst e2
      obtain ⟨hlt, hv⟩ := h
      rcases (hv _ _ _ hk).2 rfl with ⟨b, o, cap, hb, hle, ho, rfl, hcap⟩ | ⟨hx, a, rfl⟩
      · have hl : ((xs.drop i).take n).length = n := by simp; omega
        exact ⟨_, cap, by rw [hl], by rw [hl]; exact hcap, (fun h => (by cases h)), place_rows hs hk hb (him b hb) (fun x vs h => ER.mono he.keeps h) hle ho⟩
      · subst hx
        refine ⟨a, 0, by simp, by simp, (fun h => (by cases h)), fun i hi => (by simp at hi)⟩
  | _ => exact h.ext he
theorem frzCs_ok {base : Nat} {σ : Sig} {pb : Pb} {w : World} {k g : Nat} {r : Sh} {xs : List r.den} (hs : St base σ pb w) (hk : σ[k]? = some (.rows r xs g)) : ∀ {ps : List PV} {ys : List Value}, CRs σ pb w ps ys →
    CRs ((σ.map (frzP k g r xs)).set k .dead) (pb.set k none) w (ps.map (frzC k g r xs)) ys
  | [], [], _ => trivial
  | p :: ps, y :: ys, h => ⟨frzC_ok hs hk h.1, frzCs_ok hs hk h.2⟩
  | [], _ :: _, h => h.elim
  | _ :: _, [], h => h.elim
theorem frzV_ok {base : Nat} {σ : Sig} {pb : Pb} {w : World} {k g : Nat} {r : Sh} {xs : List r.den} (hs : St base σ pb w) (hk : σ[k]? = some (.rows r xs g)) {p : PV} {y : Value} (h : VR σ pb w p y) :
    VR ((σ.map (frzP k g r xs)).set k .dead) (pb.set k none) w (frzV k g r xs p) y := by
  have he := frz_ext hs hk
  have one : ∀ q : PV, CR σ pb w q y → CR ((σ.map (frzP k g r xs)).set k .dead) (pb.set k none) w (frzC k g r xs q) y := fun q h => frzC_ok hs hk h
  have up : ∀ q : PV, cellish q = true → CR σ pb w q y → VR ((σ.map (frzP k g r xs)).set k .dead) (pb.set k none) w (frzC k g r xs q) y := by
    intro q hq h
    have h1 := one q h
    generalize frzC k g r xs q = z at h1
    cases z <;> first | exact h1 | exact h1.elim
  cases p with
  | agg cs => obtain ⟨ys, e, h⟩ := h; exact ⟨ys, e, frzCs_ok hs hk h⟩
  | fn f cs => obtain ⟨ys, e, h⟩ := h; exact ⟨ys, e, frzCs_ok hs hk h⟩
  | tup vs => exact VR.ext he h
  | arr k' l => exact h
  | v x => exact up (.v x) rfl h
  | rows a b c => exact up (.rows a b c) rfl h
  | ptr a b => exact up (.ptr a b) rfl h
  | rp a b c d => exact up (.rp a b c d) rfl h
  | ep a b c => exact up (.ep a b c) rfl h
  | apr a b c => exact up (.apr a b c) rfl h
  | apl a b c d => exact up (.apl a b c d) rfl h
  | own a b => exact up (.own a b) rfl h
  | ref a b c d => exact up (.ref a b c d) rfl h
  | dead => trivial

/-- What may happen between two pieces of code: the world stays, places are seen anew. -/
def Anew (base : Nat) (f : Fr) (σ : Sig) (f' : Fr) (σ' : Sig) : Prop := ∀ pb w tmps, St base σ pb w → FR σ pb w f tmps → ∃ pb', St base σ' pb' w ∧ Ext σ pb w σ' pb' w ∧ FR σ' pb' w f' tmps
theorem Anew.refl (base : Nat) (f : Fr) (σ : Sig) : Anew base f σ f σ := fun pb w tmps hs hf => ⟨pb, hs, Ext.refl _ _ _, hf⟩
theorem Anew.trans {base : Nat} {f f' f'' : Fr} {σ σ' σ'' : Sig} (h : Anew base f σ f' σ') (k : Anew base f' σ' f'' σ'') : Anew base f σ f'' σ'' := by
  intro pb w tmps hs hf
  obtain ⟨pb1, a1, a2, a3⟩ := h pb w tmps hs hf
  obtain ⟨pb2, b1, b2, b3⟩ := k pb1 w tmps a1 a3
  exact ⟨pb2, b1, a2.trans b2, b3⟩

theorem frz1_at {base k g : Nat} {r : Sh} {xs : List r.den} {f : Fr} {σ : Sig} (hk : σ[k]? = some (.rows r xs g)) {pb : Pb} {w : World} {tmps : Array Value} (hs : St base σ pb w) (hf : FR σ pb w f tmps) :
    St base ((σ.map (frzP k g r xs)).set k .dead) (pb.set k none) w ∧ Ext σ pb w ((σ.map (frzP k g r xs)).set k .dead) (pb.set k none) w ∧ FR ((σ.map (frzP k g r xs)).set k .dead) (pb.set k none) w (f.map fun e => (e.1, frzV k g r xs e.2)) tmps := by
    have he := frz_ext hs hk
    have hklt : k < σ.length := (List.getElem?_eq_some_iff.mp hk).1
    refine ⟨⟨hs.bs, by simpa using hs.len, fun i j b hi hj => ?_, fun i b hi => ?_, fun b hb => ⟨(hs.frn b hb).1, fun hm => ?_⟩, fun j p o hj ho => ?_⟩, he, fun t => ?_⟩
    · have hi' : i ≠ k := by rintro rfl; rw [List.getElem?_set_self (by rw [hs.len]; exact hklt)] at hi; cases hi
      have hj' : j ≠ k := by rintro rfl; rw [List.getElem?_set_self (by rw [hs.len]; exact hklt)] at hj; cases hj
      rw [List.getElem?_set_ne (Ne.symm hi')] at hi
      rw [List.getElem?_set_ne (Ne.symm hj')] at hj
      exact hs.inj i j b hi hj
    · have hi' : i ≠ k := by rintro rfl; rw [List.getElem?_set_self (by rw [hs.len]; exact hklt)] at hi; cases hi
      rw [List.getElem?_set_ne (Ne.symm hi')] at hi
      exact hs.bnd i b hi
    · obtain ⟨j, hj, e⟩ := List.getElem_of_mem hm
      rw [List.getElem_set] at e
      split at e
      · cases e
      · exact (hs.frn b hb).2 (by rw [← e]; exact List.getElem_mem _)
    · by_cases e : k = j
      · subst e
        rw [List.getElem?_set_self (by simpa using hklt)] at hj
        cases hj
        cases o <;> exact trivial
      · rw [List.getElem?_set_ne e, List.getElem?_map] at hj
        rw [List.getElem?_set_ne e] at ho
        cases hq : σ[j]? with
        | none => rw [hq] at hj; cases hj
        | some q =>
          rw [hq] at hj
          cases hj
          have hp := hs.pl j q o hq ho
          cases q with
          | cells cs => cases o with
            | none => exact hp.elim
            | some b => obtain ⟨c, e', f, h1, h2, h3⟩ := hp; exact ⟨c, e', f, h1, h2, frzCs_ok hs hk h3⟩
          | rows r' ys g' => exact PlaceR.ext he (fun b hb => rfl) hp
          | dead => cases o <;> exact trivial
    · have := hf t
      clear hf
      induction f with
      | nil => exact trivial
      | cons e f ih =>
        simp only [List.map, Fr.get] at this ⊢
        cases hb : Nat.beq e.1 t with
        | true => rw [hb] at this; exact frzV_ok hs hk this
        | false => rw [hb] at this; exact ih this
theorem frz1_ok {base k : Nat} {f f' : Fr} {σ σ' : Sig} (h : frz1 k f σ = some (f', σ')) : Anew base f σ f' σ' := by
  unfold frz1 at h
  split at h
  · rename_i r xs g hk
    cases h
    rw [nth_get] at hk
    intro pb w tmps hs hf
    obtain ⟨a1, a2, a3⟩ := frz1_at hk hs hf
    exact ⟨_, a1, a2, a3⟩
  · cases h
theorem dead_at {base k : Nat} {f : Fr} {σ : Sig} {pb : Pb} {w : World} {tmps : Array Value} (hs : St base σ pb w) (hf : FR σ pb w f tmps) :
    St base (σ.set k .dead) (pb.set k none) w ∧ Ext σ pb w (σ.set k .dead) (pb.set k none) w ∧ FR (σ.set k .dead) (pb.set k none) w f tmps := by
  have hsub : ∀ (j b : Nat), (pb.set k none)[j]? = some (some b) → pb[j]? = some (some b) ∧ j ≠ k := by
    intro j b h
    by_cases e : k = j
    · subst e
      rw [List.getElem?_set] at h
      simp at h
    · rw [List.getElem?_set_ne e] at h
      exact ⟨h, fun e' => e e'.symm⟩
  have hmem : ∀ b : Nat, some b ∈ pb.set k none → some b ∈ pb := by
    intro b hb
    obtain ⟨j, hj, e⟩ := List.getElem_of_mem hb
    exact List.mem_of_getElem? (hsub j b (by rw [List.getElem?_eq_getElem hj, e])).1
  have he : Ext σ pb w (σ.set k .dead) (pb.set k none) w := by
    refine ⟨rfl, rfl, rfl, Nat.le_refl _, ⟨fun b hb => ⟨⟨hb.1, fun h => hb.2.1 (hmem b h), hb.2.2⟩, rfl⟩, fun _ _ => rfl⟩, fun b c e f h => ⟨c, f, h, rfl⟩, by simp, fun j hj => ?_⟩
    by_cases e : k = j
    · subst e
      rw [List.getElem?_set_self hj]
      exact ⟨fun cs h => (by cases h), fun r' ys g' h => (by cases h)⟩
    · rw [List.getElem?_set_ne e, List.getElem?_set_ne e]
      exact ⟨fun cs h => ⟨⟨cs, h⟩, rfl⟩, fun r xs g h => ⟨xs, g, h, Nat.le_refl _, fun _ => ⟨rfl, rfl⟩⟩⟩
  refine ⟨⟨hs.bs, by simpa using hs.len, fun i j b hi hj => hs.inj i j b (hsub i b hi).1 (hsub j b hj).1, fun i b hi => hs.bnd i b (hsub i b hi).1, fun b hb => ⟨(hs.frn b hb).1, fun h => (hs.frn b hb).2 (hmem b h)⟩, fun j p o hj ho => ?_⟩, he, hf.ext he⟩
  by_cases e : k = j
  · subst e
    rw [List.getElem?_set] at hj
    simp at hj
    rw [← hj.2]
    cases o <;> exact trivial
  · rw [List.getElem?_set_ne e] at hj ho
    exact PlaceR.ext he (fun b hb => rfl) (hs.pl j p o hj ho)
def pbz (l : List Nat) (pb : Pb) : Pb := l.foldl (fun p k => p.set k none) pb
theorem hides_at {base : Nat} {w : World} {tmps : Array Value} : ∀ {l : List Nat} {f : Fr} {σ : Sig} {pb : Pb}, St base σ pb w → FR σ pb w f tmps →
    St base (hides l f σ).2 (pbz l pb) w ∧ Ext σ pb w (hides l f σ).2 (pbz l pb) w ∧ FR (hides l f σ).2 (pbz l pb) w (hides l f σ).1 tmps := by
  intro l
  induction l with
  | nil => intro f σ pb hs hf; exact ⟨hs, Ext.refl _ _ _, hf⟩
  | cons k l ih =>
    intro f σ pb hs hf
    have one : St base (hide1 k f σ).2 (pb.set k none) w ∧ Ext σ pb w (hide1 k f σ).2 (pb.set k none) w ∧ FR (hide1 k f σ).2 (pb.set k none) w (hide1 k f σ).1 tmps := by
      unfold hide1
      split
      · rename_i r xs g hk
        rw [nth_get] at hk
        exact frz1_at hk hs hf
      · exact dead_at hs hf
    obtain ⟨a1, a2, a3⟩ := one
    obtain ⟨b1, b2, b3⟩ := ih a1 a3
    exact ⟨b1, a2.trans b2, b3⟩
theorem frzs_ok {base : Nat} : ∀ {l : List Nat} {f f' : Fr} {σ σ' : Sig}, frzs l f σ = some (f', σ') → Anew base f σ f' σ' := by
  intro l
  induction l with
  | nil => intro f f' σ σ' h; cases h; exact Anew.refl _ _ _
  | cons k l ih =>
    intro f f' σ σ' h
    simp only [frzs] at h
    split at h
    · rename_i f1 σ1 h1
      exact (frz1_ok h1).trans (ih h)
    · cases h
theorem matsF_ok {base : Nat} : ∀ {l : List (Nat × Sh)} {f f' : Fr} {σ σ' : Sig}, matsF l f σ = some (f', σ') → Anew base f σ f' σ' := by
  intro l
  induction l with
  | nil => intro f f' σ σ' h; cases h; exact Anew.refl _ _ _
  | cons x l ih =>
    obtain ⟨t, s⟩ := x
    intro f f' σ σ' h
    simp only [matsF] at h
    split at h
    · rename_i f1 σ1 h1
      refine Anew.trans ?_ (ih h)
      unfold mat1 at h1
      split at h1
      · rename_i hy
        cases h1
        exact fun pb w tmps hs hf => mat_step hy (.inl rfl) hs hf
      · rename_i s' hy
        cases h1
        exact fun pb w tmps hs hf => mat_step hy (.inr ⟨s', rfl⟩) hs hf
      · cases h1
    · cases h

theorem nilC_row {p : PV} (h : nilC p = true) : p = .v (.slice none 0 0) ∨ ∃ s', p = .rows true s' [] := by
  unfold nilC at h
  split at h
  · exact .inl rfl
  · exact .inr ⟨_, rfl⟩
  · cases h
theorem matC1_ok {base k i : Nat} {s : Sh} {f f' : Fr} {σ σ' : Sig} (h : matC1 k i s f σ = some (f', σ')) : Anew base f σ f' σ' := by
  unfold matC1 at h
  rw [nth_get] at h
  split at h
  · rename_i cs hk
    rw [nth_get] at h
    split at h
    · rename_i p hp
      cases hn : nilC p with
      | false => rw [hn] at h; cases h
      | true =>
        rw [hn] at h
        cases h
        intro pb w tmps hs hf
        have hlt : k < σ.length := (List.getElem?_eq_some_iff.mp hk).1
        have hpbl : k < pb.length := by rw [hs.len]; exact hlt
        have hpk : pb[k]? = some pb[k] := List.getElem?_eq_getElem hpbl
        have hpl := hs.pl k _ _ hk hpk
        cases ho : pb[k] with
        | none => rw [ho] at hpl; exact hpl.elim
        | some b =>
        rw [ho] at hpl hpk
        obtain ⟨c, e, fz, h1, h2, h3⟩ := hpl
        obtain ⟨y, hy, hpy⟩ := h3.get hp
        obtain ⟨pb', b1, b2, b3⟩ := mat_step (t := 0) (s := s) (f := [(0, p)]) (y0 := p) (tmps := #[y]) rfl (nilC_row hn) hs (fun t => by
          cases t with
          | zero => rcases nilC_row hn with rfl | ⟨s', rfl⟩ <;> exact hpy
          | succ t => exact trivial)
        have hown : CR (σ ++ [.rows s [] 0]) pb' w (.own σ.length 0) y := b3 0
        have hk1 : (σ ++ [Place.rows s [] 0])[k]? = some (.cells cs) := by rw [List.getElem?_append_left hlt]; exact hk
        have he : Ext (σ ++ [.rows s [] 0]) pb' w ((σ ++ [Place.rows s [] 0]).set k (.cells (cs.set i (.own σ.length 0)))) pb' w :=
          ⟨rfl, rfl, rfl, Nat.le_refl _, Keeps.refl _ _, fun b c e f h => ⟨c, f, h, rfl⟩, PlExt.set hk1 trivial⟩
        have hpb' : pb'[k]? = some (some b) := by
          have := ((b2.pls.2 k hlt).1 cs hk1).2
          rw [this, hpk]
        refine ⟨pb', ⟨b1.bs, by simpa using b1.len, b1.inj, b1.bnd, b1.frn, fun j q o hj hq => ?_⟩, b2.trans he, (hf.ext b2).ext he⟩
        by_cases ejk : j = k
        · subst ejk
          rw [show ((σ ++ [Place.rows s [] 0]).set j (.cells (cs.set i (.own σ.length 0))))[j]? = some (.cells (cs.set i (.own σ.length 0))) from List.getElem?_set_self (by rw [List.length_append]; omega)] at hj
          cases hj
          rw [hpb'] at hq
          cases hq
          refine ⟨c, e, fz, h1, h2, ?_⟩
          have := ((h3.ext b2).set i hown).ext he
          rwa [show c.toList.set i y = c.toList from by
            apply List.ext_getElem?
            intro m
            rw [List.getElem?_set]
            split
            · rename_i em
              subst em
              split
              · exact hy.symm
              · rename_i hlt2; rw [List.getElem?_eq_none (by omega)]
            · rfl] at this
        · rw [show ((σ ++ [Place.rows s [] 0]).set k (.cells (cs.set i (.own σ.length 0))))[j]? = (σ ++ [Place.rows s [] 0])[j]? by simp [List.getElem?_set, Ne.symm ejk]] at hj
          exact PlaceR.ext he (fun _ _ => rfl) (b1.pl j q o hj hq)
    · cases h
  · cases h
theorem matsC_ok {base : Nat} : ∀ {l : List (Nat × (Nat × Sh))} {f f' : Fr} {σ σ' : Sig}, matsC l f σ = some (f', σ') → Anew base f σ f' σ' := by
  intro l
  induction l with
  | nil => intro f f' σ σ' h; cases h; exact Anew.refl _ _ _
  | cons x l ih =>
    obtain ⟨k, i, s⟩ := x
    intro f f' σ σ' h
    simp only [matsC] at h
    split at h
    · rename_i f1 σ1 h1
      exact (matC1_ok h1).trans (ih h)
    · cases h

/-! ### states by patterns -/
theorem notInK_ne {k : Nat} : ∀ {l : List Nat}, notInK k l = true → ∀ (j x : Nat), l[j]? = some x → x ≠ k := by
  intro l
  induction l with
  | nil => intro _ j x h; simp at h
  | cons y l ih =>
    intro h j x hx
    simp only [notInK, Bool.and_eq_true, Bool.not_eq_true'] at h
    cases j with
    | zero =>
      cases hx
      intro e
      rw [e, Nat.beq_refl] at h
      cases h.1
    | succ j => exact ih h.2 j x (by simpa using hx)
theorem exOk_spec {n0 len : Nat} : ∀ {l : List Nat}, exOk n0 len l = true → (∀ (j x : Nat), l[j]? = some x → n0 ≤ x ∧ x < len) ∧ ∀ (i j x : Nat), l[i]? = some x → l[j]? = some x → i = j := by
  intro l
  induction l with
  | nil => intro _; exact ⟨fun j x h => by simp at h, fun i j x h => by simp at h⟩
  | cons k l ih =>
    intro h
    simp only [exOk, Bool.and_eq_true] at h
    obtain ⟨h1, h2, h3, h4⟩ := h
    have hk1 : n0 ≤ k := Nat.le_of_ble_eq_true h1
    have hk2 : k < len := by simpa [Nat.blt_eq] using h2
    obtain ⟨a1, a2⟩ := ih h4
    have hn := notInK_ne h3
    refine ⟨fun j x hx => ?_, fun i j x hi hj => ?_⟩
    · cases j with
      | zero => cases hx; exact ⟨hk1, hk2⟩
      | succ j => exact a1 j x (by simpa using hx)
    · cases i with
      | zero => cases j with
        | zero => rfl
        | succ j => cases hi; exact absurd rfl (hn j k (by simpa using hj))
      | succ i => cases j with
        | zero => cases hj; exact absurd rfl (hn i k (by simpa using hi))
        | succ j => rw [a2 i j x (by simpa using hi) (by simpa using hj)]

def pbE (pb : Pb) (n0 : Nat) (ex : List Nat) (n : Nat) : Pb := (List.range n).map fun j => (pb[exI n0 ex j]?).getD none
theorem pbE_get {pb : Pb} {n0 n : Nat} {ex : List Nat} {j : Nat} (hj : j < n) (hl : exI n0 ex j < pb.length) : (pbE pb n0 ex n)[j]? = pb[exI n0 ex j]? := by
  unfold pbE
  rw [List.getElem?_map, List.getElem?_range hj]
  simp [List.getElem?_eq_getElem hl]

theorem resI_kp {qk : List PK} (j : Nat) (h : (resI qk j).2 = 0) : kpAt qk j = true := by
  unfold resI at h
  cases e : kpAt qk j with
  | true => rfl
  | false => rw [e] at h; cases h
theorem decState_ok [φ : Foreign] {base n0 : Nat} {ks : List AK} {qk : List PK} {ex : List Nat} {ps : List PV} {σ : Sig} {a : adens ks} {s : pdens qk} (h : decState n0 ks qk ex ps σ = some (a, s)) (m : Nat → Nat × Nat) (hm : ∀ j, (m j).1 = j) (hm2 : ∀ j, (m j).2 = 0 → kpAt qk j = true)
    {pb : Pb} {w : World} {ys : List Value} (hs : St base σ pb w) (hv : VRs σ pb w ps ys) : ∃ pb', St base (encPs m 0 qk s) pb' w ∧ ExtN n0 σ pb w (encPs m 0 qk s) pb' w ∧ ARs (encPs m 0 qk s) pb' w (encAs m ks a) ys := by
  unfold decState at h
  split at h
  · rename_i a' ha
    split at h
    · rename_i s' hs'
      obtain ⟨h1, h2⟩ := bif_some h
      cases h2
      simp only [Bool.and_eq_true] at h1
      obtain ⟨hn0, ⟨hql, hex⟩, hoka, hokp⟩ := h1
      have hn0 := Nat.le_of_ble_eq_true hn0
      have hql := bbeq hql
      obtain ⟨e1, e2⟩ := exOk_spec hex
      have hI : ∀ j, j < qk.length → exI n0 ex j < σ.length ∧ (j < n0 → exI n0 ex j = j) ∧ (n0 ≤ j → n0 ≤ exI n0 ex j ∧ ex[j - n0]? = some (exI n0 ex j)) := by
        intro j hj
        unfold exI
        cases hb : Nat.blt j n0 with
        | true =>
          have : j < n0 := by simpa [Nat.blt_eq] using hb
          exact ⟨by simp only [cond_true]; omega, fun _ => rfl, fun h => by omega⟩
        | false =>
          have hge : ¬ j < n0 := fun h => by rw [show Nat.blt j n0 = true by simpa [Nat.blt_eq] using h] at hb; cases hb
          simp only [cond_false, nth_get]
          have hlt : j - n0 < ex.length := by omega
          have hx : ex[j - n0]? = some ex[j - n0] := List.getElem?_eq_getElem hlt
          rw [hx]
          have := e1 _ _ hx
          exact ⟨this.2, fun h => absurd h hge, fun _ => ⟨this.1, rfl⟩⟩
      have hinj : ∀ i j, i < qk.length → j < qk.length → exI n0 ex i = exI n0 ex j → i = j := by
        intro i j hi hj e
        obtain ⟨a1, a2, a3⟩ := hI i hi
        obtain ⟨b1, b2, b3⟩ := hI j hj
        by_cases h1 : i < n0 <;> by_cases h2 : j < n0
        · have := a2 h1; have := b2 h2; omega
        · have := a2 h1; have := (b3 (by omega)).1; omega
        · have := b2 h2; have := (a3 (by omega)).1; omega
        · have q1 := (a3 (by omega)).2
          have q2 := (b3 (by omega)).2
          rw [e] at q1
          have := e2 _ _ _ q1 q2
          omega
      have hpl : pb.length = σ.length := hs.len
      have hpg : ∀ j, j < qk.length → (pbE pb n0 ex qk.length)[j]? = pb[exI n0 ex j]? := fun j hj => pbE_get hj (by rw [hpl]; exact (hI j hj).1)
      have hpbl : (pbE pb n0 ex qk.length).length = qk.length := by simp [pbE]
      have hsl : (encPs m 0 qk s).length = qk.length := encPs_len
      have hget := fun j k (hk : qk[j]? = some k) => decPs_get hs' j k hk
      have hmem : ∀ b : Nat, some b ∈ pbE pb n0 ex qk.length → some b ∈ pb := by
        intro b hb
        obtain ⟨j, hj, e⟩ := List.getElem_of_mem hb
        have := hpg j (by rw [← hpbl]; exact hj)
        rw [List.getElem?_eq_getElem hj, e] at this
        exact List.mem_of_getElem? this.symm
      have hgen : ∀ j, (exM σ n0 ex j).1 = exI n0 ex j := fun j => rfl
      have cel : ∀ j cs2, j < qk.length → (encPs m 0 qk s)[j]? = some (.cells cs2) → ∃ cs1, σ[exI n0 ex j]? = some (.cells cs1) := by
        intro j cs2 hj h
        have hk : qk[j]? = some qk[j] := List.getElem?_eq_getElem hj
        obtain ⟨q, z, h1, h2, h3⟩ := hget j _ hk
        rw [h3] at h
        simp only [Nat.zero_add] at h1 h2
        rw [hgen] at h1
        rw [h1]
        generalize qk[j] = k at z h h2
        cases k with
        | cells l =>
          simp only [decP] at h2
          split at h2
          · exact ⟨_, rfl⟩
          · cases h2
        | rows r _ => cases h
        | gone => cases h
      have rws : ∀ j r xs g, j < qk.length → (encPs m 0 qk s)[j]? = some (.rows r xs g) → g = (m j).2 ∧ σ[exI n0 ex j]? = some (.rows r xs (exM σ n0 ex j).2) ∧ (kpAt qk j = true → (exM σ n0 ex j).2 = 0) := by
        intro j r xs g hj h
        have hk : qk[j]? = some qk[j] := List.getElem?_eq_getElem hj
        obtain ⟨q, z, h1, h2, h3⟩ := hget j _ hk
        rw [h3] at h
        simp only [Nat.zero_add] at h1 h2 h
        rw [hgen] at h1
        have hkp : kpAt qk j = (match (some qk[j] : Option PK) with | some (.rows _ kp) => kp | _ => false) := by unfold kpAt; rw [nth_get, hk]; rfl
        generalize qk[j] = k at z h h2 hkp
        cases k with
        | rows r' kp =>
          cases h
          refine ⟨rfl, ?_⟩
          simp only [decP] at h2
          split at h2
          · obtain ⟨f1, f2⟩ := bif_some h2
            have f3 := (Bool.and_eq_true_iff.1 f1).2
            have f1 := bbeq (Bool.and_eq_true_iff.1 f1).1
            split at f2
            · rename_i e
              subst e
              cases f2
              refine ⟨by rw [← f1]; exact h1, fun hkt => ?_⟩
              rw [hkp] at hkt
              have hkt : kp = true := hkt
              subst hkt
              exact bbeq f3
            · cases f2
          · cases h2
        | cells l => cases h
        | gone => cases h
      have S : Slots φ φ qk.length σ pb (exM σ n0 ex) (encPs m 0 qk s) (pbE pb n0 ex qk.length) m w := by
        refine ⟨fun b hb => ⟨hb.1, fun h => hb.2.1 (hmem b h), hb.2.2⟩, fun j hj => by rw [hm, hsl]; exact hj, fun j hj cs2 h => ?_, fun j hj r xs g h => ?_⟩
        · rw [hm] at h ⊢
          exact ⟨cel j cs2 hj h, hpg j hj⟩
        · rw [hm] at h ⊢
          exact ⟨(rws j r xs g hj h).1, (rws j r xs g hj h).2.1, hpg j hj⟩
      refine ⟨pbE pb n0 ex qk.length, ⟨hs.bs, by rw [hpbl, hsl], fun i j b hi hj => ?_, fun i b hi => ?_, fun b hb => ⟨(hs.frn b hb).1, fun h => (hs.frn b hb).2 (hmem b h)⟩, fun j p o hj ho => ?_⟩,
        ⟨rfl, rfl, rfl, Nat.le_refl _, ⟨fun b hb => ⟨S.im b hb, rfl⟩, fun _ _ => rfl⟩, fun b c e f h => ⟨c, f, h, rfl⟩, hn0, by rw [hsl]; omega, fun k hk cs' h => ?_, fun k hk r xs g h => ?_, fun k hk r xs h => ?_⟩, S.encAs hoka (decAs_vr ha hv)⟩
      · have hi' : i < qk.length := by rw [← hpbl]; exact (List.getElem?_eq_some_iff.1 hi).1
        have hj' : j < qk.length := by rw [← hpbl]; exact (List.getElem?_eq_some_iff.1 hj).1
        rw [hpg i hi'] at hi
        rw [hpg j hj'] at hj
        exact hinj i j hi' hj' (hs.inj _ _ b hi hj)
      · have hi' : i < qk.length := by rw [← hpbl]; exact (List.getElem?_eq_some_iff.1 hi).1
        rw [hpg i hi'] at hi
        exact hs.bnd _ b hi
      · have hj' : j < qk.length := by rw [← hpbl]; exact (List.getElem?_eq_some_iff.1 ho).1
        have hk : qk[j]? = some qk[j] := List.getElem?_eq_getElem hj'
        obtain ⟨q, z, h1, h2, h3⟩ := hget j _ hk
        rw [h3] at hj
        cases hj
        rw [hpg j hj'] at ho
        simp only [Nat.zero_add] at h1 h2
        exact S.encP (okPs_get hokp j _ hk) (decP_ok h2 (hs.pl _ q o h1 ho))
      · have hkq : k < qk.length := by omega
        obtain ⟨cs1, c1⟩ := cel k cs' hkq h
        rw [(hI k hkq).2.1 hk] at c1
        refine ⟨⟨cs1, c1⟩, ?_⟩
        rw [hpg k hkq, (hI k hkq).2.1 hk]
      · have hkq : k < qk.length := by omega
        have := (rws k r xs g hkq h).2.1
        rw [(hI k hkq).2.1 hk] at this
        exact ⟨xs, _, this⟩
      · have hkq : k < qk.length := by omega
        obtain ⟨q1, q2, q3⟩ := rws k r xs 0 hkq h
        rw [q3 (hm2 k q1.symm), (hI k hkq).2.1 hk] at q2
        exact ⟨xs, q2, rfl, by rw [hpg k hkq, (hI k hkq).2.1 hk]⟩
    · cases h
  · cases h

theorem getsF_rel {σ : Sig} {pb : Pb} {w : World} {f : Fr} {tmps : Array Value} (hf : FR σ pb w f tmps) : ∀ ts : List Nat, VRs σ pb w (getsF f ts) (ts.map fun t => tmps.getD t undef)
  | [] => trivial
  | t :: r => ⟨hf t, getsF_rel hf r⟩
theorem zipF_rel {σ : Sig} {pb : Pb} {w : World} {tmps : Array Value} : ∀ {ts : List Nat} {ps : List PV}, ARs σ pb w ps (ts.map fun t => tmps.getD t undef) → FR σ pb w (zipF ts ps) tmps
  | [], [], _, t => trivial
  | [], _ :: _, h, _ => h.elim
  | _ :: _, [], h, _ => h.elim
  | u :: ts, p :: ps, h, t => by
    show VR σ pb w (Fr.get ((u, p) :: zipF ts ps) t) _
    simp only [Fr.get]
    by_cases e : u = t
    · subst e
      rw [show Nat.beq u u = true from Nat.beq_refl u]
      exact h.1.vr
    · rw [nbeq e]
      exact zipF_rel h.2 t

theorem Fr.get_zip {ts : List Nat} {ps : List PV} {kf : Fr} {t : Nat} : (Fr.get (zipF ts ps ++ kf) t = Fr.get (zipF ts ps) t) ∨ (Fr.get (zipF ts ps ++ kf) t = Fr.get kf t) := by
  induction ts generalizing ps with
  | nil => right; rfl
  | cons u ts ih =>
    cases ps with
    | nil => right; rfl
    | cons p ps =>
      simp only [zipF, List.cons_append, Fr.get]
      cases Nat.beq u t with
      | true => left; rfl
      | false => exact ih
theorem FR.both {σ : Sig} {pb : Pb} {w : World} {tmps : Array Value} {ts : List Nat} {ps : List PV} {kf : Fr} (h : FR σ pb w (zipF ts ps) tmps) (k : FR σ pb w kf tmps) : FR σ pb w (zipF ts ps ++ kf) tmps := by
  intro t
  rcases Fr.get_zip (ts := ts) (ps := ps) (kf := kf) (t := t) with e | e
  · rw [e]; exact h t
  · rw [e]; exact k t
theorem freeC_move {σ σ' : Sig} {pb pb' : Pb} {w w' : World} (k : Keeps pb w pb' w') {p : PV} {y : Value} (hf : freeC p = true) (h : CR σ pb w p y) : CR σ' pb' w' p y := by
  cases p with
  | v x => exact h
  | rows full r xs =>
    obtain ⟨a, cap, h1, h2, h3, h4⟩ := h
    exact ⟨a, cap, h1, h2, h3, h4.mono k fun _ _ => ER.mono k⟩
  | _ => cases hf
theorem freeCs_move {σ σ' : Sig} {pb pb' : Pb} {w w' : World} (k : Keeps pb w pb' w') : ∀ {ps : List PV} {ys : List Value}, ps.all freeC = true → CRs σ pb w ps ys → CRs σ' pb' w' ps ys
  | [], [], _, _ => trivial
  | p :: ps, y :: ys, hf, h => by
    simp only [List.all_cons, Bool.and_eq_true] at hf
    exact ⟨freeC_move k hf.1 h.1, freeCs_move k hf.2 h.2⟩
  | [], _ :: _, _, h => h.elim
  | _ :: _, [], _, h => h.elim
theorem freeV_move {σ σ' : Sig} {pb pb' : Pb} {w w' : World} (k : Keeps pb w pb' w') {p : PV} {y : Value} (hf : freeV p = true) (h : VR σ pb w p y) : VR σ' pb' w' p y := by
  cases p with
  | v x => exact h
  | rows full r xs => exact freeC_move (σ := σ) (σ' := σ') (p := .rows full r xs) k rfl h
  | arr k l => exact h
  | agg cs => obtain ⟨ys, e, h⟩ := h; exact ⟨ys, e, freeCs_move k hf h⟩
  | fn f cs => obtain ⟨ys, e, h⟩ := h; exact ⟨ys, e, freeCs_move k hf h⟩
  | _ => cases hf
/-- What is kept beside what a piece of code writes. -/
def KpC (c : Code) (a a' : Act) : Prop := a'.defers = a.defers ∧ ∀ t, unwB t c = true → a'.tmps.getD t undef = a.tmps.getD t undef
theorem KpC.refl (c : Code) (a : Act) : KpC c a a := ⟨rfl, fun _ _ => rfl⟩
theorem KpC.trans {c : Code} {a a' a'' : Act} (h : KpC c a a') (k : KpC c a' a'') : KpC c a a'' := ⟨k.1.trans h.1, fun t ht => (k.2 t ht).trans (h.2 t ht)⟩
theorem keptF_ok {c : Code} {σ σ' : Sig} {pb pb' : Pb} {w w' : World} {f : Fr} {a a' : Act} (hf : FR σ pb w f a.tmps) (hk : KpC c a a') (k : Keeps pb w pb' w') : ∀ l : List Nat, FR σ' pb' w' (keptF c f l) a'.tmps := by
  intro l
  induction l with
  | nil => exact fun t => trivial
  | cons u l ih =>
    intro t
    simp only [keptF]
    cases hb : unwB u c && freeV (f.get u) with
    | false => exact ih t
    | true =>
      rw [Bool.and_eq_true] at hb
      simp only [cond_true, Fr.get]
      by_cases e : u = t
      · subst e
        rw [show Nat.beq u u = true from Nat.beq_refl u]
        rw [hk.2 u hb.1]
        exact freeV_move k hb.2 (hf u)
      · rw [nbeq e]
        exact ih t
theorem keptF_free {c : Code} {f : Fr} (l : List Nat) : ∀ t, Fr.get (keptF c f l) t = .dead ∨ (freeV (Fr.get (keptF c f l) t) = true ∧ unwB t c = true) := by
  induction l with
  | nil => exact fun t => .inl rfl
  | cons u l ih =>
    intro t
    simp only [keptF]
    cases hb : unwB u c && freeV (f.get u) with
    | false => exact ih t
    | true =>
      rw [Bool.and_eq_true] at hb
      simp only [cond_true, Fr.get]
      by_cases e : u = t
      · subst e
        rw [show Nat.beq u u = true from Nat.beq_refl u]
        exact .inr ⟨hb.2, hb.1⟩
      · rw [nbeq e]
        exact ih t

/-- What happens where a state is read by patterns and written anew. -/
def Turned (n0 base : Nat) (f : Fr) (σ : Sig) (f' : Fr) (σ' : Sig) : Prop := ∀ pb w tmps, n0 ≤ σ.length → St base σ pb w → FR σ pb w f tmps → ∃ pb', St base σ' pb' w ∧ ExtN n0 σ pb w σ' pb' w ∧ FR σ' pb' w f' tmps

theorem Ext.pre {n0 : Nat} {σ σ' σ'' : Sig} {pb pb' pb'' : Pb} {w w' w'' : World} (h : Ext σ pb w σ' pb' w') (hn : n0 ≤ σ.length) (k : ExtN n0 σ' pb' w' σ'' pb'' w'') : ExtN n0 σ pb w σ'' pb'' w'' :=
  ExtN.trans (h.weak.less hn) k
theorem decPrep_ok {n0 base : Nat} {ts : List Nat} {ks : List AK} {qk : List PK} {p : Prep} {f : Fr} {σ : Sig} {x : adens ks × pdens qk} (h : decPrep n0 ts ks qk p f σ = some x) (hn : n0 ≤ σ.length) (m : Nat → Nat × Nat) (hm : ∀ j, (m j).1 = j) (hm2 : ∀ j, (m j).2 = 0 → kpAt qk j = true) :
    ∀ pb w tmps, St base σ pb w → FR σ pb w f tmps → ∃ pb', St base (encPs m 0 qk x.2) pb' w ∧ ExtN n0 σ pb w (encPs m 0 qk x.2) pb' w ∧ ARs (encPs m 0 qk x.2) pb' w (encAs m ks x.1) (ts.map fun t => tmps.getD t undef) := by
  unfold decPrep at h
  split at h
  · rename_i f1 σ1 h1
    split at h
    · rename_i f3 σ3 h3
      split at h
      · rename_i f2 σ2 h2
        intro pb w tmps hs hf
        obtain ⟨pb1, a1, a2, a3⟩ := ((matsF_ok (base := base) h1).trans (matsC_ok h3)).trans (frzs_ok h2) pb w tmps hs hf
        obtain ⟨pb2, b1, b2, b3⟩ := decState_ok (a := x.1) (s := x.2) h m hm hm2 a1 (getsF_rel a3 ts)
        exact ⟨pb2, b1, a2.pre hn b2, b3⟩
      · cases h
    · cases h
  · cases h
theorem decPreps_ok {n0 base : Nat} {ts : List Nat} {ks : List AK} {qk : List PK} : ∀ {l : List Prep} {f : Fr} {σ : Sig} {x : adens ks × pdens qk} (h : decPreps n0 ts ks qk l f σ = some x) (hn : n0 ≤ σ.length) (m : Nat → Nat × Nat) (hm : ∀ j, (m j).1 = j) (hm2 : ∀ j, (m j).2 = 0 → kpAt qk j = true),
    ∀ pb w tmps, St base σ pb w → FR σ pb w f tmps → ∃ pb', St base (encPs m 0 qk x.2) pb' w ∧ ExtN n0 σ pb w (encPs m 0 qk x.2) pb' w ∧ ARs (encPs m 0 qk x.2) pb' w (encAs m ks x.1) (ts.map fun t => tmps.getD t undef) := by
  intro l
  induction l with
  | nil => intro f σ x h; cases h
  | cons p l ih =>
    intro f σ x h hn m hm hm2
    simp only [decPreps] at h
    split at h
    · rename_i y hy
      cases h
      exact decPrep_ok hy hn m hm hm2
    · exact ih h hn m hm hm2
theorem decAlt_ok {n0 base : Nat} {A : Alt} {f : Fr} {σ : Sig} {x : A.den} (h : decAlt n0 A f σ = some x) : Turned n0 base f σ (zipF A.ts (encAs (resI A.qk) A.ks x.1)) (encPs (resI A.qk) 0 A.qk x.2) := by
  intro pb w tmps hn hs hf
  obtain ⟨pb', a1, a2, a3⟩ := decPreps_ok h hn (resI A.qk) (fun _ => rfl) resI_kp pb w tmps hs hf
  exact ⟨pb', a1, a2, zipF_rel a3⟩

theorem decAlt_qlen {n0 : Nat} {A : Alt} {f : Fr} {σ : Sig} {x : A.den} (h : decAlt n0 A f σ = some x) : n0 ≤ A.qk.length := by
  unfold decAlt at h
  generalize A.preps = l at h
  induction l with
  | nil => cases h
  | cons p l ih =>
    simp only [decPreps] at h
    split at h
    · rename_i y hy
      unfold decPrep at hy
      split at hy
      · split at hy
        · split at hy
          · unfold decState at hy
            split at hy
            · split at hy
              · obtain ⟨h1, _⟩ := bif_some hy
                simp only [Bool.and_eq_true] at h1
                have := bbeq h1.2.1.1
                omega
              · cases hy
            · cases hy
          · cases hy
        · cases hy
      · cases hy
    · exact ih h
theorem sameEx_eq {e e' : Ex} (h : sameEx e e' = true) : e = e' := by
  cases e <;> cases e' <;> first | rfl | cases h | skip
  simp only [sameEx] at h
  rw [Nat.eq_of_beq_eq_true h]
theorem decO_ok {n0 : Nat} {kf : List Nat → Fr} : ∀ {l : List Alt} {e : Ex} {f : Fr} {σ : Sig} {t : densO l}, decO n0 l e f σ = some t → ∀ {R : Type} (k : Ex → Fr → Sig → Option R) (r : R), encO kf l t k = some r →
    ∃ (A : Alt) (x : A.den), k e (zipF A.ts (encAs (resI A.qk) A.ks x.1) ++ kf A.kp) (encPs (resI A.qk) 0 A.qk x.2) = some r ∧ ∀ base, Turned n0 base f σ (zipF A.ts (encAs (resI A.qk) A.ks x.1)) (encPs (resI A.qk) 0 A.qk x.2) := by
  intro l
  match l with
  | [] => intro e f σ t h; cases h
  | [A] =>
    intro e f σ t h R k r hk
    simp only [decO] at h
    obtain ⟨h1, h2⟩ := bif_some h
    have := sameEx_eq h1
    subst this
    exact ⟨A, t, hk, fun base => decAlt_ok h2⟩
  | A :: B :: l =>
    intro e f σ t h R k r hk
    simp only [decO] at h
    split at h
    · rename_i x hx
      cases h
      obtain ⟨h1, h2⟩ := bif_some hx
      have := sameEx_eq h1
      subst this
      exact ⟨A, x, hk, fun base => decAlt_ok h2⟩
    · split at h
      · rename_i y hy
        cases h
        exact decO_ok (l := B :: l) hy k r hk
      · cases h
end

end Go.Proofs.YtcngjidojibleaaPM
