/- How what is reckoned stands to a world: what stays, places, and what a step may turn. -/
import Derived.Test.YtcngjidojibleaaPmDefs
import Derived.Below
import Derived.RowKit
set_option linter.unusedVariables false
set_option linter.unusedSectionVars false
set_option linter.unusedSimpArgs false
namespace Go.Proofs.YtcngjidojibleaaPM
open Go Go.RowKit

abbrev Pb := List (Option Nat)
/-- Blocks that are others' places: nobody here looks at them or turns them. -/
class Foreign where
  X : Nat → Prop
variable [Foreign]
/-- A block that nobody turns any more. -/
def Im (pb : Pb) (w : World) (b : Nat) : Prop := b < w.heap.size ∧ some b ∉ pb ∧ ¬ Foreign.X b

def RowsR (pb : Pb) (w : World) (n : Nat) {α : Type} (E : α → List Value → Prop) (xs : List α) (a : Option Addr) : Prop :=
  ∀ i (h : i < xs.length), ∃ b o vs, a = some ⟨b, o, none⟩ ∧ Im pb w b ∧ vs.length = n ∧ (∀ j, j < n → w.cell? ⟨b, o + i * n + j, none⟩ = vs[j]?) ∧ E xs[i] vs
def ER (pb : Pb) (w : World) : (r : Sh) → r.den → List Value → Prop
  | .int k, n, vs => vs = [.int k n]
  | .bool, b, vs => vs = [.bool b]
  | .str, s, vs => vs = [.string s]
  | .rows r, xs, vs => ∃ a cap, vs = [.slice a xs.length cap] ∧ xs.length ≤ cap ∧ RowsR pb w r.n (ER pb w r) xs a
  | .pair a b, x, vs => ∃ u v, vs = u ++ v ∧ ER pb w a x.1 u ∧ ER pb w b x.2 v
  | .unit, _, vs => vs = []

theorem ER.len {pb : Pb} {w : World} : ∀ {r : Sh} {x : r.den} {vs : List Value}, ER pb w r x vs → vs.length = r.n := by
  intro r
  induction r with
  | int k => intro x vs h; simp only [ER] at h; rw [h]; rfl
  | bool => intro x vs h; simp only [ER] at h; rw [h]; rfl
  | str => intro x vs h; simp only [ER] at h; rw [h]; rfl
  | rows r _ => intro x vs h; obtain ⟨a, c, h, _⟩ := h; rw [h]; rfl
  | pair a b iha ihb => intro x vs h; obtain ⟨u, v, rfl, hu, hv⟩ := h; simp [iha hu, ihb hv, Sh.n]
  | unit => intro x vs h; simp only [ER] at h; rw [h]; rfl

/-- From here on what stayed stays, and reads as it did. -/
def Keeps (pb : Pb) (w : World) (pb' : Pb) (w' : World) : Prop := (∀ b, Im pb w b → Im pb' w' b ∧ w'.heap[b]? = w.heap[b]?) ∧ ∀ b, Foreign.X b → w'.heap[b]? = w.heap[b]?
theorem Keeps.refl (pb : Pb) (w : World) : Keeps pb w pb w := ⟨fun b h => ⟨h, rfl⟩, fun _ _ => rfl⟩
theorem Keeps.trans {pb pb' pb'' : Pb} {w w' w'' : World} (h : Keeps pb w pb' w') (k : Keeps pb' w' pb'' w'') : Keeps pb w pb'' w'' :=
  ⟨fun b hb => ⟨(k.1 b (h.1 b hb).1).1, (k.1 b (h.1 b hb).1).2.trans (h.1 b hb).2⟩, fun b hb => (k.2 b hb).trans (h.2 b hb)⟩
theorem Keeps.cell {pb pb' : Pb} {w w' : World} (h : Keeps pb w pb' w') {b : Nat} (hb : Im pb w b) (o : Nat) : w'.cell? ⟨b, o, none⟩ = w.cell? ⟨b, o, none⟩ :=
  World.cell?_of_block (h.1 b hb).2

theorem RowsR.mono {pb pb' : Pb} {w w' : World} (k : Keeps pb w pb' w') {n : Nat} {α : Type} {E E' : α → List Value → Prop} (hE : ∀ x vs, E x vs → E' x vs) {xs : List α} {a : Option Addr}
    (h : RowsR pb w n E xs a) : RowsR pb' w' n E' xs a := by
  intro i hi
  obtain ⟨b, o, vs, ha, hb, hl, hc, he⟩ := h i hi
  exact ⟨b, o, vs, ha, (k.1 b hb).1, hl, fun j hj => by rw [k.cell hb]; exact hc j hj, hE _ _ he⟩
theorem ER.mono {pb pb' : Pb} {w w' : World} (k : Keeps pb w pb' w') : ∀ {r : Sh} {x : r.den} {vs : List Value}, ER pb w r x vs → ER pb' w' r x vs := by
  intro r
  induction r with
  | int _ => exact fun h => h
  | bool => exact fun h => h
  | str => exact fun h => h
  | unit => exact fun h => h
  | rows r ih => rintro x vs ⟨a, c, h, hl, hr⟩; exact ⟨a, c, h, hl, hr.mono k fun _ _ => ih⟩
  | pair a b iha ihb => rintro x vs ⟨u, v, h, hu, hv⟩; exact ⟨u, v, h, iha hu, ihb hv⟩

/-- An own row's slice: at the head of a block whose first cells are these. -/
def BlockOf (w : World) (b : Nat) (need : Nat) : Prop := ∃ c e f, w.heap[b]? = some (.cells c e f) ∧ need ≤ c.size

def CR (σ : Sig) (pb : Pb) (w : World) : PV → Value → Prop
  | .v x, y => y = x
  | .rows full r xs, y => ∃ a cap, y = .slice a xs.length cap ∧ xs.length ≤ cap ∧ (full = true → cap = xs.length) ∧ RowsR pb w r.n (ER pb w r) xs a
  | .ptr k o, y => k < σ.length ∧ ∃ b, y = .pointer (some ⟨b, o, none⟩) ∧ ∀ cs, σ[k]? = some (.cells cs) → pb[k]? = some (some b)
  | .rp k i off g, y => k < σ.length ∧ ∃ b o, y = .pointer (some ⟨b, o + off, none⟩) ∧ ∀ r xs g', σ[k]? = some (.rows r xs g') → g ≤ g' ∧ (g = g' → pb[k]? = some (some b) ∧ i < xs.length ∧ o = i * r.n)
  | .ep r x off, y => ∃ b o vs, y = .pointer (some ⟨b, o + off, none⟩) ∧ Im pb w b ∧ vs.length = r.n ∧ (∀ j, j < r.n → w.cell? ⟨b, o + j, none⟩ = vs[j]?) ∧ ER pb w r x vs
  | .apr k xs n, y => n ≤ xs.length ∧ ∃ a, y = .pointer a ∧ RowsR pb w 1 (ER pb w (.int k)) xs a ∧ (n = 0 ∨ a.isSome)
  | .apl k i n g, y => k < σ.length ∧ ∃ b o, y = .pointer (some ⟨b, o, none⟩) ∧ ∀ r xs g', σ[k]? = some (.rows r xs g') → g ≤ g' ∧ (g = g' → pb[k]? = some (some b) ∧ i + n ≤ xs.length ∧ o = i * r.n)
  | .own k g, y => k < σ.length ∧ ∀ r xs g', σ[k]? = some (.rows r xs g') → g ≤ g' ∧ (g = g' →
      (∃ b cap, pb[k]? = some (some b) ∧ y = .slice (some ⟨b, 0, none⟩) xs.length cap ∧ xs.length ≤ cap ∧ BlockOf w b (cap * r.n)) ∨ (pb[k]? = some none ∧ xs = [] ∧ ∃ a, y = .slice a 0 0))
  | .ref k i n g, y => k < σ.length ∧ ∀ r xs g', σ[k]? = some (.rows r xs g') → g ≤ g' ∧ (g = g' →
      (∃ b o cap, pb[k]? = some (some b) ∧ i + n ≤ xs.length ∧ (0 < n → o = i * r.n) ∧ y = .slice (some ⟨b, o, none⟩) n cap ∧ n ≤ cap) ∨ (n = 0 ∧ ∃ a, y = .slice a 0 0))
  | .dead, _ => True
  | _, _ => False

def CRs (σ : Sig) (pb : Pb) (w : World) : List PV → List Value → Prop
  | [], [] => True
  | p :: ps, y :: ys => CR σ pb w p y ∧ CRs σ pb w ps ys
  | _, _ => False

def AR (σ : Sig) (pb : Pb) (w : World) : PV → Value → Prop
  | .agg cs, y => ∃ ys : List Value, y = .agg ys.toArray ∧ CRs σ pb w cs ys
  | .arr k l, y => y = .agg (l.map (Value.int k)).toArray
  | .fn g caps, y => ∃ ys : List Value, y = .func (.func g) #[] ys.toArray ∧ CRs σ pb w caps ys
  | p, y => CR σ pb w p y
def ARs (σ : Sig) (pb : Pb) (w : World) : List PV → List Value → Prop
  | [], [] => True
  | p :: ps, y :: ys => AR σ pb w p y ∧ ARs σ pb w ps ys
  | _, _ => False
def VR (σ : Sig) (pb : Pb) (w : World) : PV → Value → Prop
  | .tup vs, y => ∃ ys : List Value, y = .tuple ys.toArray ∧ ARs σ pb w vs ys
  | p, y => AR σ pb w p y

def FR (σ : Sig) (pb : Pb) (w : World) (f : Fr) (tmps : Array Value) : Prop := ∀ t, VR σ pb w (f.get t) (tmps.getD t undef)

def Unfrozen (f : Nat × Nat) (n : Nat) : Prop := ∀ o, o < n → ¬ (f.1 ≤ o ∧ o < f.2)

def PlaceR (σ : Sig) (pb : Pb) (w : World) : Place → Option Nat → Prop
  | .cells cs, some b => ∃ c e f, w.heap[b]? = some (.cells c e f) ∧ Unfrozen f c.size ∧ CRs σ pb w cs c.toList
  | .rows r xs g, some b => ∃ c e f, w.heap[b]? = some (.cells c e f) ∧ Unfrozen f c.size ∧ xs.length * r.n ≤ c.size ∧
      ∀ i (h : i < xs.length), ∃ vs, vs.length = r.n ∧ (∀ j, j < r.n → c[i * r.n + j]? = vs[j]?) ∧ ER pb w r xs[i] vs
  | .rows r xs g, none => xs = []
  | .cells _, none => False
  | .dead, _ => True

structure St (base : Nat) (σ : Sig) (pb : Pb) (w : World) : Prop where
  bs : base ≤ w.heap.size
  len : pb.length = σ.length
  inj : ∀ (i j b : Nat), pb[i]? = some (some b) → pb[j]? = some (some b) → i = j
  bnd : ∀ (i b : Nat), pb[i]? = some (some b) → base ≤ b ∧ b < w.heap.size
  frn : ∀ b : Nat, Foreign.X b → b < w.heap.size ∧ some b ∉ pb
  pl : ∀ (k : Nat) (p : Place) (o : Option Nat), σ[k]? = some p → pb[k]? = some o → PlaceR σ pb w p o

/-- What may have happened to places since. -/
def PlExt (σ : Sig) (pb : Pb) (σ' : Sig) (pb' : Pb) : Prop := σ.length ≤ σ'.length ∧ ∀ k, k < σ.length →
  (∀ cs', σ'[k]? = some (.cells cs') → (∃ cs, σ[k]? = some (.cells cs)) ∧ pb'[k]? = pb[k]?) ∧
  (∀ r xs' g', σ'[k]? = some (.rows r xs' g') → ∃ xs g, σ[k]? = some (.rows r xs g) ∧ g ≤ g' ∧ (g = g' → xs.length = xs'.length ∧ pb'[k]? = pb[k]?))

structure Ext (σ : Sig) (pb : Pb) (w : World) (σ' : Sig) (pb' : Pb) (w' : World) : Prop where
  os : w'.os = w.os
  tape : w'.tape = w.tape
  output : w'.output = w.output
  size : w.heap.size ≤ w'.heap.size
  keeps : Keeps pb w pb' w'
  shp : ∀ (b : Nat) (c : Array Value) (e : TypeId) (f : Nat × Nat), w.heap[b]? = some (.cells c e f) → ∃ (c' : Array Value) (f' : Nat × Nat), w'.heap[b]? = some (.cells c' e f') ∧ c'.size = c.size
  pls : PlExt σ pb σ' pb'

theorem PlExt.refl (σ : Sig) (pb : Pb) : PlExt σ pb σ pb := ⟨Nat.le_refl _, fun k hk => ⟨fun cs h => ⟨⟨cs, h⟩, rfl⟩, fun r xs g h => ⟨xs, g, h, Nat.le_refl _, fun _ => ⟨rfl, rfl⟩⟩⟩⟩
theorem PlExt.trans {σ σ' σ'' : Sig} {pb pb' pb'' : Pb} (h : PlExt σ pb σ' pb') (k : PlExt σ' pb' σ'' pb'') : PlExt σ pb σ'' pb'' := by
  refine ⟨Nat.le_trans h.1 k.1, fun i hi => ⟨fun cs hc => ?_, fun r xs g hr => ?_⟩⟩
  · obtain ⟨⟨cs', h1⟩, e1⟩ := (k.2 i (Nat.lt_of_lt_of_le hi h.1)).1 cs hc
    obtain ⟨h2, e2⟩ := (h.2 i hi).1 cs' h1
    exact ⟨h2, e1.trans e2⟩
  · obtain ⟨xs', g', h1, l1, e1⟩ := (k.2 i (Nat.lt_of_lt_of_le hi h.1)).2 r xs g hr
    obtain ⟨xs'', g'', h2, l2, e2⟩ := (h.2 i hi).2 r xs' g' h1
    refine ⟨xs'', g'', h2, Nat.le_trans l2 l1, fun e => ?_⟩
    obtain ⟨a1, a2⟩ := e1 (by omega)
    obtain ⟨b1, b2⟩ := e2 (by omega)
    exact ⟨b1.trans a1, a2.trans b2⟩

theorem Ext.refl (σ : Sig) (pb : Pb) (w : World) : Ext σ pb w σ pb w := ⟨rfl, rfl, rfl, Nat.le_refl _, Keeps.refl _ _, fun b c e f h => ⟨c, f, h, rfl⟩, PlExt.refl _ _⟩
theorem Ext.trans {σ σ' σ'' : Sig} {pb pb' pb'' : Pb} {w w' w'' : World} (h : Ext σ pb w σ' pb' w') (k : Ext σ' pb' w' σ'' pb'' w'') : Ext σ pb w σ'' pb'' w'' where
  os := k.os.trans h.os
  tape := k.tape.trans h.tape
  output := k.output.trans h.output
  size := Nat.le_trans h.size k.size
  keeps := h.keeps.trans k.keeps
  shp := fun b c e f hb => by
    obtain ⟨c', f', h1, e1⟩ := h.shp b c e f hb
    obtain ⟨c'', f'', h2, e2⟩ := k.shp b c' e f' h1
    exact ⟨c'', f'', h2, e2.trans e1⟩
  pls := h.pls.trans k.pls

theorem BlockOf.ext {σ σ' : Sig} {pb pb' : Pb} {w w' : World} (h : Ext σ pb w σ' pb' w') {b n : Nat} (hb : BlockOf w b n) : BlockOf w' b n := by
  obtain ⟨c, e, f, h1, h2⟩ := hb
  obtain ⟨c', f', h3, h4⟩ := h.shp b c e f h1
  exact ⟨c', e, f', h3, by omega⟩

theorem CR.ext {σ σ' : Sig} {pb pb' : Pb} {w w' : World} (h : Ext σ pb w σ' pb' w') {p : PV} {y : Value} (hc : CR σ pb w p y) : CR σ' pb' w' p y := by
  have hl := h.pls.1
  cases p with
  | v x => exact hc
  | rows full r xs =>
    obtain ⟨a, cap, h1, h2, h3, h4⟩ := hc
    exact ⟨a, cap, h1, h2, h3, h4.mono h.keeps fun _ _ => ER.mono h.keeps⟩
  | ptr k o =>
    obtain ⟨hk, b, hy, hc⟩ := hc
    refine ⟨by omega, b, hy, fun cs hcs => ?_⟩
    obtain ⟨⟨cs', h1⟩, e⟩ := (h.pls.2 k hk).1 cs hcs
    rw [e]
    exact hc _ h1
  | rp k i off g =>
    obtain ⟨hk, b, o, hy, hc⟩ := hc
    refine ⟨by omega, b, o, hy, fun r xs g' hr => ?_⟩
    obtain ⟨xs', g'', h1, l1, e1⟩ := (h.pls.2 k hk).2 r xs g' hr
    obtain ⟨l2, e2⟩ := hc r xs' g'' h1
    refine ⟨by omega, fun e => ?_⟩
    obtain ⟨a1, a2⟩ := e1 (by omega)
    obtain ⟨p1, p2, p3⟩ := e2 (by omega)
    exact ⟨by rw [a2]; exact p1, by rw [← a1]; exact p2, p3⟩
  | ep r x off =>
    obtain ⟨b, o, vs, h1, h2, h3, h4, h5⟩ := hc
    exact ⟨b, o, vs, h1, (h.keeps.1 b h2).1, h3, fun j hj => by rw [h.keeps.cell h2]; exact h4 j hj, h5.mono h.keeps⟩
  | apr k xs n =>
    obtain ⟨h1, a, h2, h3, h4⟩ := hc
    exact ⟨h1, a, h2, h3.mono h.keeps fun _ _ => ER.mono h.keeps, h4⟩
  | apl k i n g =>
    obtain ⟨hk, b, o, hy, hc⟩ := hc
    refine ⟨by omega, b, o, hy, fun r xs g' hr => ?_⟩
    obtain ⟨xs', g'', h1, l1, e1⟩ := (h.pls.2 k hk).2 r xs g' hr
    obtain ⟨l2, e2⟩ := hc r xs' g'' h1
    refine ⟨by omega, fun e => ?_⟩
    obtain ⟨a1, a2⟩ := e1 (by omega)
    obtain ⟨p1, p2, p3⟩ := e2 (by omega)
    exact ⟨by rw [a2]; exact p1, by rw [← a1]; exact p2, p3⟩
  | own k g =>
    obtain ⟨hk, hc⟩ := hc
    refine ⟨by omega, fun r xs g' hr => ?_⟩
    obtain ⟨xs', g'', h1, l1, e1⟩ := (h.pls.2 k hk).2 r xs g' hr
    obtain ⟨l2, e2⟩ := hc r xs' g'' h1
    refine ⟨by omega, fun e => ?_⟩
    obtain ⟨a1, a2⟩ := e1 (by omega)
    rcases e2 (by omega) with ⟨b, cap, p1, p2, p3, p4⟩ | ⟨p1, p2, p3⟩
    · exact .inl ⟨b, cap, by rw [a2]; exact p1, by rw [← a1]; exact p2, by omega, p4.ext h⟩
    · refine .inr ⟨by rw [a2]; exact p1, ?_, p3⟩
      rw [p2] at a1
      exact List.eq_nil_of_length_eq_zero a1.symm
  | ref k i n g =>
    obtain ⟨hk, hc⟩ := hc
    refine ⟨by omega, fun r xs g' hr => ?_⟩
    obtain ⟨xs', g'', h1, l1, e1⟩ := (h.pls.2 k hk).2 r xs g' hr
    obtain ⟨l2, e2⟩ := hc r xs' g'' h1
    refine ⟨by omega, fun e => ?_⟩
    obtain ⟨a1, a2⟩ := e1 (by omega)
    rcases e2 (by omega) with ⟨b, o, cap, p1, p2, p3, p4, p5⟩ | p
    · exact .inl ⟨b, o, cap, by rw [a2]; exact p1, by omega, p3, p4, p5⟩
    · exact .inr p
  | agg cs => exact hc
  | arr k l => exact hc
  | tup vs => exact hc
  | fn f c => exact hc
  | dead => trivial

theorem CRs.ext {σ σ' : Sig} {pb pb' : Pb} {w w' : World} (h : Ext σ pb w σ' pb' w') : ∀ {ps : List PV} {ys : List Value}, CRs σ pb w ps ys → CRs σ' pb' w' ps ys
  | [], [], _ => trivial
  | p :: ps, y :: ys, hc => ⟨hc.1.ext h, CRs.ext h hc.2⟩
  | [], _ :: _, hc => hc.elim
  | _ :: _, [], hc => hc.elim
theorem AR.ext {σ σ' : Sig} {pb pb' : Pb} {w w' : World} (h : Ext σ pb w σ' pb' w') {p : PV} {y : Value} (hc : AR σ pb w p y) : AR σ' pb' w' p y := by
  cases p with
  | agg cs => obtain ⟨ys, e, hc⟩ := hc; exact ⟨ys, e, hc.ext h⟩
  | fn g cs => obtain ⟨ys, e, hc⟩ := hc; exact ⟨ys, e, hc.ext h⟩
  | arr k l => exact hc
  | v x => exact CR.ext (p := .v x) h hc
  | rows a b c => exact CR.ext (p := .rows a b c) h hc
  | ptr a b => exact CR.ext (p := .ptr a b) h hc
  | rp a b c d => exact CR.ext (p := .rp a b c d) h hc
  | ep a b c => exact CR.ext (p := .ep a b c) h hc
  | apr a b c => exact CR.ext (p := .apr a b c) h hc
  | apl a b c d => exact CR.ext (p := .apl a b c d) h hc
  | own a b => exact CR.ext (p := .own a b) h hc
  | ref a b c d => exact CR.ext (p := .ref a b c d) h hc
  | tup a => exact hc
  | dead => trivial
theorem ARs.ext {σ σ' : Sig} {pb pb' : Pb} {w w' : World} (h : Ext σ pb w σ' pb' w') : ∀ {ps : List PV} {ys : List Value}, ARs σ pb w ps ys → ARs σ' pb' w' ps ys
  | [], [], _ => trivial
  | p :: ps, y :: ys, hc => ⟨hc.1.ext h, ARs.ext h hc.2⟩
  | [], _ :: _, hc => hc.elim
  | _ :: _, [], hc => hc.elim
theorem VR.ext {σ σ' : Sig} {pb pb' : Pb} {w w' : World} (h : Ext σ pb w σ' pb' w') {p : PV} {y : Value} (hc : VR σ pb w p y) : VR σ' pb' w' p y := by
  cases p with
  | tup cs => obtain ⟨ys, e, hc⟩ := hc; exact ⟨ys, e, hc.ext h⟩
  | v x => exact AR.ext (p := .v x) h hc
  | rows a b c => exact AR.ext (p := .rows a b c) h hc
  | ptr a b => exact AR.ext (p := .ptr a b) h hc
  | rp a b c d => exact AR.ext (p := .rp a b c d) h hc
  | ep a b c => exact AR.ext (p := .ep a b c) h hc
  | apr a b c => exact AR.ext (p := .apr a b c) h hc
  | apl a b c d => exact AR.ext (p := .apl a b c d) h hc
  | own a b => exact AR.ext (p := .own a b) h hc
  | ref a b c d => exact AR.ext (p := .ref a b c d) h hc
  | agg a => exact AR.ext (p := .agg a) h hc
  | arr a b => exact AR.ext (p := .arr a b) h hc
  | fn a b => exact AR.ext (p := .fn a b) h hc
  | dead => trivial
theorem FR.ext {σ σ' : Sig} {pb pb' : Pb} {w w' : World} (h : Ext σ pb w σ' pb' w') {f : Fr} {tmps : Array Value} (hf : FR σ pb w f tmps) : FR σ' pb' w' f tmps :=
  fun t => (hf t).ext h

theorem CRs.length {σ : Sig} {pb : Pb} {w : World} : ∀ {ps : List PV} {ys : List Value}, CRs σ pb w ps ys → ps.length = ys.length
  | [], [], _ => rfl
  | p :: ps, y :: ys, hc => by simp [CRs.length hc.2]
  | [], _ :: _, hc => hc.elim
  | _ :: _, [], hc => hc.elim

end Go.Proofs.YtcngjidojibleaaPM
