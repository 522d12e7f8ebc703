/- What a step in memory does to places, and to what stays. -/
import Derived.Test.YtcngjidojibleaaPmRel
set_option linter.unusedVariables false
set_option linter.unusedSectionVars false
set_option linter.unusedSimpArgs false
namespace Go.Proofs.YtcngjidojibleaaPM
open Go Go.RowKit
variable [Foreign]

theorem add_mk (b o j : Nat) : (⟨b, o, none⟩ : Addr).add j = ⟨b, o + j, none⟩ := by
  unfold Addr.add
  split
  · rename_i h; subst h; rfl
  · rfl
theorem cell_mk (w : World) (b o : Nat) {c : Array Value} {e : TypeId} {f : Nat × Nat} (h : w.heap[b]? = some (.cells c e f)) : w.cell? ⟨b, o, none⟩ = c[o]? := by
  unfold World.cell?
  rw [h]
  rfl

/-- Block b turned from c to c', all else as it was. -/
structure Upd (w : World) (b : Nat) (c c' : Array Value) (w' : World) : Prop where
  os : w'.os = w.os
  tape : w'.tape = w.tape
  output : w'.output = w.output
  size : w'.heap.size = w.heap.size
  other : ∀ i, i ≠ b → w'.heap[i]? = w.heap[i]?
  at_ : ∃ e f, w.heap[b]? = some (.cells c e f) ∧ w'.heap[b]? = some (.cells c' e f)
  sz : c'.size = c.size

theorem Upd.refl {w : World} {b : Nat} {c : Array Value} {e : TypeId} {f : Nat × Nat} (h : w.heap[b]? = some (.cells c e f)) : Upd w b c c w :=
  ⟨rfl, rfl, rfl, rfl, fun _ _ => rfl, ⟨e, f, h, h⟩, rfl⟩
theorem Upd.trans {w w' w'' : World} {b : Nat} {c c' c'' : Array Value} (h : Upd w b c c' w') (k : Upd w' b c' c'' w'') : Upd w b c c'' w'' := by
  refine ⟨k.os.trans h.os, k.tape.trans h.tape, k.output.trans h.output, k.size.trans h.size, fun i hi => (k.other i hi).trans (h.other i hi), ?_, k.sz.trans h.sz⟩
  obtain ⟨e, f, h1, h2⟩ := h.at_
  obtain ⟨e', f', h3, h4⟩ := k.at_
  rw [h2] at h3
  cases h3
  exact ⟨e, f, h1, h4⟩

theorem Upd.setCell {w : World} {b o : Nat} {c : Array Value} {e : TypeId} {f : Nat × Nat} (h : w.heap[b]? = some (.cells c e f)) (v : Value) : Upd w b c (c.setIfInBounds o v) (w.setCell ⟨b, o, none⟩ v) := by
  refine ⟨rfl, rfl, rfl, by simp [World.setCell], fun i hi => by simp [World.setCell, Array.getElem?_modify, Ne.symm hi], ⟨e, f, h, ?_⟩, by simp⟩
  simp [World.setCell, Array.getElem?_modify, h]

def setArr (c : Array Value) (o : Nat) : List Value → Array Value
  | [] => c
  | v :: r => setArr (c.setIfInBounds o v) (o + 1) r
theorem setArr_size (c : Array Value) (o : Nat) (l : List Value) : (setArr c o l).size = c.size := by
  induction l generalizing c o with
  | nil => rfl
  | cons v l ih => simp [setArr, ih]

def oneB : Value → Bool
  | .agg _ | .tuple _ => false
  | _ => true
theorem storeCells_run {P : Program} (b o : Nat) : ∀ (l : List Value) (i : Nat) (w : World) (c : Array Value) (e : TypeId) (f : Nat × Nat), w.heap[b]? = some (.cells c e f) → Unfrozen f c.size → o + i + l.length ≤ c.size → l.all oneB = true →
    ∃ w', (storeCells ⟨b, o, none⟩ l i).run P w = .ok () w' ∧ Upd w b c (setArr c (o + i) l) w' := by
  intro l
  induction l with
  | nil => intro i w c e f h _ _ _; exact ⟨w, rfl, Upd.refl h⟩
  | cons v l ih =>
    intro i w c e f h hf hl ha
    simp only [List.length_cons] at hl
    simp only [List.all_cons, Bool.and_eq_true] at ha
    have hcell : w.cell? ⟨b, o + i, none⟩ = some (c[o + i]'(by omega)) := by rw [cell_mk w b _ h]; simp
    have hfr : w.frozen? ⟨b, o + i, none⟩ = false := by
      unfold World.frozen?
      rw [h]
      have := hf (o + i) (by omega)
      simp only [Bool.and_eq_false_iff, decide_eq_false_iff_not]
      by_cases q : f.1 ≤ o + i
      · exact .inr (fun q' => this ⟨q, q'⟩)
      · exact .inl q
    have hstore : (store ((⟨b, o, none⟩ : Addr).add i) v).run P w = .ok () (w.setCell ⟨b, o + i, none⟩ v) := by
      rw [add_mk]
      unfold store
      cases v <;> simp_all [Sem.run, oneB]
    have hu := Upd.setCell (o := o + i) h v
    obtain ⟨e', f', h1, h2⟩ := hu.at_
    rw [h] at h1
    cases h1
    obtain ⟨w', hr, hu'⟩ := ih (i + 1) (w.setCell ⟨b, o + i, none⟩ v) _ _ _ h2 (by simpa using hf) (by simp; omega) ha.2
    refine ⟨w', ?_, ?_⟩
    · unfold storeCells
      rw [Sem.run_bind, hstore]
      exact hr
    · have := hu.trans hu'
      simpa [setArr, Nat.add_assoc] using this

theorem Upd.keeps {w w' : World} {b : Nat} {c c' : Array Value} {pb : Pb} (h : Upd w b c c' w') (hb : some b ∈ pb) (hx : ∀ i : Nat, Foreign.X i → some i ∉ pb) : Keeps pb w pb w' := by
  refine ⟨fun i hi => ?_, fun i hi => ?_⟩
  · have : i ≠ b := fun e => hi.2.1 (e ▸ hb)
    exact ⟨⟨by rw [h.size]; exact hi.1, hi.2⟩, h.other i this⟩
  · exact h.other i fun e => hx i hi (e ▸ hb)
theorem Upd.shp {w w' : World} {b : Nat} {c c' : Array Value} (h : Upd w b c c' w') (i : Nat) (d : Array Value) (e : TypeId) (f : Nat × Nat) (hi : w.heap[i]? = some (.cells d e f)) :
    ∃ (c' : Array Value) (f' : Nat × Nat), w'.heap[i]? = some (.cells c' e f') ∧ c'.size = d.size := by
  by_cases q : i = b
  · subst q
    obtain ⟨e', f', h1, h2⟩ := h.at_
    rw [hi] at h1
    cases h1
    exact ⟨c', f, h2, h.sz⟩
  · exact ⟨d, f, by rw [h.other i q]; exact hi, rfl⟩

/-- One place's content turned, in its block. -/
def Alike : Place → Place → Prop
  | .cells _, .cells _ => True
  | .rows r xs g, .rows r' xs' g' => r' = r ∧ g ≤ g' ∧ (g = g' → xs.length = xs'.length)
  | _, _ => False
theorem PlExt.set {σ : Sig} {pb : Pb} {k : Nat} {p p' : Place} (hk : σ[k]? = some p) (ha : Alike p p') : PlExt σ pb (σ.set k p') pb := by
  refine ⟨by simp, fun i hi => ?_⟩
  by_cases q : i = k
  · subst q
    have : (σ.set i p')[i]? = some p' := by simp [hi]
    rw [this]
    refine ⟨fun cs h => ?_, fun r xs g h => ?_⟩
    · cases h
      cases p with
      | cells cs' => exact ⟨⟨cs', hk⟩, rfl⟩
      | rows _ _ _ => exact ha.elim
      | dead => exact ha.elim
    · cases h
      cases p with
      | cells cs' => exact ha.elim
      | dead => exact ha.elim
      | rows r' xs' g' =>
        obtain ⟨rfl, h1, h2⟩ := ha
        exact ⟨xs', g', hk, h1, fun e => ⟨h2 e, rfl⟩⟩
  · have : (σ.set k p')[i]? = σ[i]? := by simp [List.getElem?_set, Ne.symm q]
    rw [this]
    exact ⟨fun cs h => ⟨⟨cs, h⟩, rfl⟩, fun r xs g h => ⟨xs, g, h, Nat.le_refl _, fun _ => ⟨rfl, rfl⟩⟩⟩
theorem Upd.ext {σ : Sig} {pb : Pb} {w w' : World} {b k : Nat} {c c' : Array Value} {p p' : Place} (h : Upd w b c c' w') (hb : pb[k]? = some (some b)) (hk : σ[k]? = some p) (ha : Alike p p') (hx : ∀ i : Nat, Foreign.X i → some i ∉ pb) : Ext σ pb w (σ.set k p') pb w' :=
  ⟨h.os, h.tape, h.output, by rw [h.size]; exact Nat.le_refl _, h.keeps (List.mem_of_getElem? hb) hx, h.shp, PlExt.set hk ha⟩

theorem PlaceR.ext {σ σ' : Sig} {pb pb' : Pb} {w w' : World} (h : Ext σ pb w σ' pb' w') {p : Place} {o : Option Nat} (hb : ∀ b, o = some b → w'.heap[b]? = w.heap[b]?) (hp : PlaceR σ pb w p o) : PlaceR σ' pb' w' p o := by
  cases o with
  | none => cases p <;> exact hp
  | some b =>
    have hb := hb b rfl
    cases p with
    | cells cs => obtain ⟨c, e, f, h1, h2, h3⟩ := hp; exact ⟨c, e, f, by rw [hb]; exact h1, h2, h3.ext h⟩
    | dead => trivial
    | rows r xs g =>
      obtain ⟨c, e, f, h1, h2, h3, h4⟩ := hp
      refine ⟨c, e, f, by rw [hb]; exact h1, h2, h3, fun i hi => ?_⟩
      obtain ⟨vs, a1, a2, a3⟩ := h4 i hi
      exact ⟨vs, a1, a2, a3.mono h.keeps⟩

theorem Upd.st {base : Nat} {σ : Sig} {pb : Pb} {w w' : World} {b k : Nat} {c c' : Array Value} {p p' : Place} (h : Upd w b c c' w') (hs : St base σ pb w) (hb : pb[k]? = some (some b)) (hk : σ[k]? = some p) (ha : Alike p p')
    (hp : PlaceR (σ.set k p') pb w' p' (some b)) : St base (σ.set k p') pb w' := by
  refine ⟨by rw [h.size]; exact hs.bs, by simpa using hs.len, hs.inj, fun i j hi => by have := hs.bnd i j hi; rw [h.size]; exact this, fun i hi => by have := hs.frn i hi; rw [h.size]; exact this, fun i q o hi ho => ?_⟩
  by_cases e : i = k
  · subst e
    have hlt : i < σ.length := by
      have := List.getElem?_eq_some_iff.mp hk
      exact this.1
    rw [show (σ.set i p')[i]? = some p' by simp [hlt]] at hi
    cases hi
    rw [hb] at ho
    cases ho
    exact hp
  · rw [show (σ.set k p')[i]? = σ[i]? by simp [List.getElem?_set, Ne.symm e]] at hi
    refine PlaceR.ext (h.ext hb hk ha fun i hx => (hs.frn i hx).2) (fun b' hb' => h.other b' fun e' => ?_) (hs.pl i q o hi ho)
    subst hb'
    subst e'
    exact e (hs.inj i k _ ho hb)

/-! ### new blocks -/
def pushW (w : World) (o : Obj) : World := { w with heap := w.heap.push o }
theorem pushW_old (w : World) (o : Obj) (b : Nat) (h : b < w.heap.size) : (pushW w o).heap[b]? = w.heap[b]? := by
  simp only [pushW, Array.getElem?_push]
  rw [if_neg (by omega)]
theorem pushW_new (w : World) (o : Obj) : (pushW w o).heap[w.heap.size]? = some o := by
  show (w.heap.push o)[w.heap.size]? = some o
  exact Array.getElem?_push_size
theorem newRow_run (P : Program) (w : World) (t : TypeId) (c : Array Value) : (newRow t c).run P w = .ok ⟨w.heap.size, 0, none⟩ (pushW w (.cells c t)) := rfl

theorem St.nf {base : Nat} {σ : Sig} {pb : Pb} {w : World} (hs : St base σ pb w) : ∀ i : Nat, Foreign.X i → some i ∉ pb := fun i h => (hs.frn i h).2
theorem St.lt {base : Nat} {σ : Sig} {pb : Pb} {w : World} (hs : St base σ pb w) {b : Nat} (h : some b ∈ pb) : b < w.heap.size := by
  obtain ⟨i, hi, he⟩ := List.getElem_of_mem h
  exact (hs.bnd i b (by rw [List.getElem?_eq_getElem hi, he])).2

/-- A new block, at the end. -/
structure Push (w w' : World) (o : Obj) : Prop where
  os : w'.os = w.os
  tape : w'.tape = w.tape
  output : w'.output = w.output
  size : w'.heap.size = w.heap.size + 1
  old : ∀ j, j < w.heap.size → w'.heap[j]? = w.heap[j]?
  new : w'.heap[w.heap.size]? = some o
theorem Push.pushW (w : World) (o : Obj) : Push w (pushW w o) o := ⟨rfl, rfl, rfl, by simp [Go.Proofs.YtcngjidojibleaaPM.pushW], fun j h => pushW_old w o j h, pushW_new w o⟩

/-- A new block that is no place: it stays. -/
theorem push_ext' {base : Nat} {σ : Sig} {pb : Pb} {w w' : World} {o : Obj} (hp : Push w w' o) (hs : St base σ pb w) : Ext σ pb w σ pb w' ∧ St base σ pb w' ∧ Im pb w' w.heap.size := by
  have he : Ext σ pb w σ pb w' := by
    refine ⟨hp.os, hp.tape, hp.output, by rw [hp.size]; omega, ⟨fun b hb => ⟨⟨by have := hb.1; rw [hp.size]; omega, hb.2⟩, hp.old b hb.1⟩, fun b hb => hp.old b (hs.frn b hb).1⟩, fun b c e f h => ⟨c, f, ?_, rfl⟩, PlExt.refl _ _⟩
    rw [hp.old b]
    · exact h
    · exact (Array.getElem?_eq_some_iff.mp h).1
  refine ⟨he, ⟨Nat.le_trans hs.bs he.size, hs.len, hs.inj, fun i b hi => ⟨(hs.bnd i b hi).1, by have := (hs.bnd i b hi).2; rw [hp.size]; omega⟩, fun b hb => ⟨by have := (hs.frn b hb).1; rw [hp.size]; omega, (hs.frn b hb).2⟩, fun k p q hk hq => ?_⟩, ⟨by rw [hp.size]; omega, fun hm => ?_, fun hm => ?_⟩⟩
  · refine PlaceR.ext he (fun b hb => ?_) (hs.pl k p q hk hq)
    subst hb
    exact hp.old b (hs.bnd k b hq).2
  · have := hs.lt hm; omega
  · have := (hs.frn _ hm).1; omega
theorem push_ext {base : Nat} {σ : Sig} {pb : Pb} {w : World} (hs : St base σ pb w) (o : Obj) : Ext σ pb w σ pb (pushW w o) ∧ St base σ pb (pushW w o) ∧ Im pb (pushW w o) w.heap.size := push_ext' (Push.pushW w o) hs

theorem PlExt.snoc (σ : Sig) (pb : Pb) (hl : pb.length = σ.length) (p : Place) (o : Option Nat) : PlExt σ pb (σ ++ [p]) (pb ++ [o]) := by
  refine ⟨by simp, fun k hk => ?_⟩
  rw [List.getElem?_append_left hk, List.getElem?_append_left (by omega)]
  exact ⟨fun cs h => ⟨⟨cs, h⟩, rfl⟩, fun r xs g h => ⟨xs, g, h, Nat.le_refl _, fun _ => ⟨rfl, rfl⟩⟩⟩

/-- A new block that is a place. -/
theorem push_place' {base : Nat} {σ : Sig} {pb : Pb} {w w' : World} {o : Obj} (hW : Push w w' o) (hs : St base σ pb w) (p : Place)
    (hp : ∀ σ' pb', Ext σ pb w σ' pb' w' → PlaceR σ' pb' w' p (some w.heap.size)) :
    Ext σ pb w (σ ++ [p]) (pb ++ [some w.heap.size]) w' ∧ St base (σ ++ [p]) (pb ++ [some w.heap.size]) w' := by
  have hl := hs.len
  have hb := hs.bs
  have he : Ext σ pb w (σ ++ [p]) (pb ++ [some w.heap.size]) w' := by
    refine ⟨hW.os, hW.tape, hW.output, by rw [hW.size]; omega, ⟨fun b hb => ⟨⟨by have := hb.1; rw [hW.size]; omega, ?_, hb.2.2⟩, hW.old b hb.1⟩, fun b hb => hW.old b (hs.frn b hb).1⟩, fun b c e f h => ⟨c, f, ?_, rfl⟩, PlExt.snoc σ pb hl p _⟩
    · intro hm
      rcases List.mem_append.mp hm with h | h
      · exact hb.2.1 h
      · have := hb.1
        simp at h
        omega
    · rw [hW.old b]
      · exact h
      · exact (Array.getElem?_eq_some_iff.mp h).1
  refine ⟨he, ⟨Nat.le_trans hs.bs he.size, by simp [hl], fun i j b hi hj => ?_, fun i b hi => ?_, fun b hb => ?_, fun k q q' hk hq => ?_⟩⟩
  · by_cases h1 : i < pb.length <;> by_cases h2 : j < pb.length
    · rw [List.getElem?_append_left h1] at hi; rw [List.getElem?_append_left h2] at hj; exact hs.inj i j b hi hj
    · rw [List.getElem?_append_left h1] at hi
      rw [List.getElem?_append_right (by omega)] at hj
      have := (hs.bnd i b hi).2
      have : j - pb.length = 0 := by
        have := (List.getElem?_eq_some_iff.mp hj).1
        simp at this; omega
      rw [this] at hj
      simp at hj
      omega
    · rw [List.getElem?_append_left h2] at hj
      rw [List.getElem?_append_right (by omega)] at hi
      have := (hs.bnd j b hj).2
      have : i - pb.length = 0 := by
        have := (List.getElem?_eq_some_iff.mp hi).1
        simp at this; omega
      rw [this] at hi
      simp at hi
      omega
    · rw [List.getElem?_append_right (by omega)] at hi hj
      have a1 := (List.getElem?_eq_some_iff.mp hi).1
      have a2 := (List.getElem?_eq_some_iff.mp hj).1
      simp at a1 a2
      omega
  · by_cases h1 : i < pb.length
    · rw [List.getElem?_append_left h1] at hi
      have := hs.bnd i b hi
      exact ⟨this.1, by rw [hW.size]; omega⟩
    · rw [List.getElem?_append_right (by omega)] at hi
      have : i - pb.length = 0 := by
        have := (List.getElem?_eq_some_iff.mp hi).1
        simp at this; omega
      rw [this] at hi
      simp at hi
      exact ⟨by omega, by rw [hW.size]; omega⟩
  · have := hs.frn b hb
    refine ⟨by rw [hW.size]; omega, fun hm => ?_⟩
    rcases List.mem_append.mp hm with h | h
    · exact this.2 h
    · simp at h
      omega
  · by_cases h1 : k < σ.length
    · rw [List.getElem?_append_left h1] at hk
      rw [List.getElem?_append_left (by omega)] at hq
      refine PlaceR.ext he (fun b hb => ?_) (hs.pl k q q' hk hq)
      subst hb
      exact hW.old b (hs.bnd k b hq).2
    · rw [List.getElem?_append_right (by omega)] at hk
      rw [List.getElem?_append_right (by omega)] at hq
      have : k - σ.length = 0 := by
        have := (List.getElem?_eq_some_iff.mp hk).1
        simp at this; omega
      rw [this] at hk
      rw [show k - pb.length = 0 by omega] at hq
      simp at hk hq
      subst hk
      subst hq
      exact hp _ _ he

theorem push_place {base : Nat} {σ : Sig} {pb : Pb} {w : World} (hs : St base σ pb w) (p : Place) (o : Obj)
    (hp : ∀ σ' pb', Ext σ pb w σ' pb' (pushW w o) → PlaceR σ' pb' (pushW w o) p (some w.heap.size)) :
    Ext σ pb w (σ ++ [p]) (pb ++ [some w.heap.size]) (pushW w o) ∧ St base (σ ++ [p]) (pb ++ [some w.heap.size]) (pushW w o) := push_place' (Push.pushW w o) hs p hp

/-- A place that moves to a new block. -/
theorem push_replace {base : Nat} {σ : Sig} {pb : Pb} {w w' : World} {o : Obj} (hW : Push w w' o) (hs : St base σ pb w) {k : Nat} {r : Sh} {xs xs' : List r.den} {g g' : Nat} (hk : σ[k]? = some (.rows r xs g)) (hg : g < g')
    (hp : ∀ σ' pb', Ext σ pb w σ' pb' w' → PlaceR σ' pb' w' (.rows r xs' g') (some w.heap.size)) :
    Ext σ pb w (σ.set k (.rows r xs' g')) (pb.set k (some w.heap.size)) w' ∧ St base (σ.set k (.rows r xs' g')) (pb.set k (some w.heap.size)) w' := by
  have hlt : k < σ.length := (List.getElem?_eq_some_iff.mp hk).1
  have hl := hs.len
  have he : Ext σ pb w (σ.set k (.rows r xs' g')) (pb.set k (some w.heap.size)) w' := by
    refine ⟨hW.os, hW.tape, hW.output, by rw [hW.size]; omega, ⟨fun b hb => ⟨⟨by have := hb.1; rw [hW.size]; omega, fun hm => ?_, hb.2.2⟩, hW.old b hb.1⟩, fun b hb => hW.old b (hs.frn b hb).1⟩, fun b c e f h => ⟨c, f, ?_, rfl⟩, ⟨by simp, fun i hi => ?_⟩⟩
    · rcases List.mem_or_eq_of_mem_set hm with h | h
      · exact hb.2.1 h
      · have := hb.1
        cases h
        omega
    · rw [hW.old b]
      · exact h
      · exact (Array.getElem?_eq_some_iff.mp h).1
    · by_cases q : i = k
      · subst q
        rw [show (σ.set i (.rows r xs' g'))[i]? = some (.rows r xs' g') by simp [hi]]
        refine ⟨fun cs h => (by cases h), fun r'' xs'' g'' h => ?_⟩
        cases h
        exact ⟨xs, g, hk, by omega, fun e => by omega⟩
      · rw [show (σ.set k (.rows r xs' g'))[i]? = σ[i]? by simp [List.getElem?_set, Ne.symm q], show (pb.set k (some w.heap.size))[i]? = pb[i]? by simp [List.getElem?_set, Ne.symm q]]
        exact ⟨fun cs h => ⟨⟨cs, h⟩, rfl⟩, fun r xs g h => ⟨xs, g, h, Nat.le_refl _, fun _ => ⟨rfl, rfl⟩⟩⟩
  have hget : ∀ (i : Nat) (b : Nat), (pb.set k (some w.heap.size))[i]? = some (some b) → (i = k ∧ b = w.heap.size) ∨ (i ≠ k ∧ pb[i]? = some (some b)) := by
    intro i b h
    by_cases q : i = k
    · subst q
      rw [show (pb.set i (some w.heap.size))[i]? = some (some w.heap.size) by simp [hl, hlt]] at h
      cases h
      exact .inl ⟨rfl, rfl⟩
    · rw [show (pb.set k (some w.heap.size))[i]? = pb[i]? by simp [List.getElem?_set, Ne.symm q]] at h
      exact .inr ⟨q, h⟩
  refine ⟨he, ⟨Nat.le_trans hs.bs he.size, by simp [hl], fun i j b hi hj => ?_, fun i b hi => ?_, fun b hb => ?_, fun i q q' hi hq => ?_⟩⟩
  · rcases hget i b hi with ⟨h1, h2⟩ | ⟨h1, h2⟩ <;> rcases hget j b hj with ⟨h3, h4⟩ | ⟨h3, h4⟩
    · omega
    · have := (hs.bnd j b h4).2; omega
    · have := (hs.bnd i b h2).2; omega
    · exact hs.inj i j b h2 h4
  · rcases hget i b hi with ⟨h1, h2⟩ | ⟨h1, h2⟩
    · exact ⟨by have := hs.bs; omega, by rw [hW.size]; omega⟩
    · have := hs.bnd i b h2
      exact ⟨this.1, by rw [hW.size]; omega⟩
  · have := hs.frn b hb
    refine ⟨by rw [hW.size]; omega, fun hm => ?_⟩
    rcases List.mem_or_eq_of_mem_set hm with h | h
    · exact this.2 h
    · cases h
      omega
  · by_cases e : i = k
    · subst e
      rw [show (σ.set i (.rows r xs' g'))[i]? = some (.rows r xs' g') by simp [hlt]] at hi
      rw [show (pb.set i (some w.heap.size))[i]? = some (some w.heap.size) by simp [hl, hlt]] at hq
      cases hi
      cases hq
      exact hp _ _ he
    · rw [show (σ.set k (.rows r xs' g'))[i]? = σ[i]? by simp [List.getElem?_set, Ne.symm e]] at hi
      rw [show (pb.set k (some w.heap.size))[i]? = pb[i]? by simp [List.getElem?_set, Ne.symm e]] at hq
      refine PlaceR.ext he (fun b hb => ?_) (hs.pl i q q' hi hq)
      subst hb
      exact hW.old b (hs.bnd i b hq).2

end Go.Proofs.YtcngjidojibleaaPM
