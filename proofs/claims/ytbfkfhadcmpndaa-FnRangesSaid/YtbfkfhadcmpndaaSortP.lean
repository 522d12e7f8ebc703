/- slices.SortFunc at rows of two whole numbers: what it says, by the library's contract. -/
import Derived.Test.YtbfkfhadcmpndaaPmLaw
import Derived.Shelf.SlSortCmp.WholeK
set_option linter.unusedVariables false
set_option linter.unusedSectionVars false
set_option linter.unusedSimpArgs false
noncomputable section
namespace Go.Proofs.YtbfkfhadcmpndaaPM
open Go Go.RowKit Go.Lib Go.Sort

abbrev PI : Sh := .pair (.int .i64) (.int .i64)
def encI (x : Int × Int) : List Value := [.int .i64 x.1, .int .i64 x.2]
def sortA (cf : Int × Int → Int × Int → Int) (d : Array (Int × Int)) : Array (Int × Int) := pdq (ltOf cf) d 0 d.size (Lib.bitLen d.size) true true
def sortL (cf : Int × Int → Int × Int → Int) (xs : List (Int × Int)) : List (Int × Int) := (sortA cf xs.toArray).toList
def sortF (cf : Int × Int → Int × Int → Int) (xs : List (Int × Int)) : Option (Unit × (List (Int × Int) × Unit)) := chk (decide (xs.length < 4611686018427387904)) (some ((), (sortL cf xs, ())))
theorem sortF_eq (cf : Int × Int → Int × Int → Int) (xs : List (Int × Int)) : sortF cf xs = chk (decide (xs.length < 4611686018427387904)) (some ((), (sortL cf xs, ()))) := rfl
theorem sortA_ok {cf : Int × Int → Int × Int → Int} (hO : SWO (ltOf cf)) (d : Array (Int × Int)) : PermIn 0 d.size d (sortA cf d) ∧ SortedIn (ltOf cf) 0 d.size (sortA cf d) :=
  pdq_sorts (ltOf cf) hO d 0 d.size (Lib.bitLen d.size) true true (Nat.zero_le _) (Nat.le_refl _) (Or.inl rfl)
theorem sortL_len {cf : Int × Int → Int × Int → Int} (hO : SWO (ltOf cf)) (xs : List (Int × Int)) : (sortL cf xs).length = xs.length := by
  have h := (sortA_ok hO xs.toArray).1
  have e : (sortA cf xs.toArray).size = xs.toArray.size := h.1
  simpa [sortL] using e
def sortS (cf : Int × Int → Int × Int → Int) (g c : FuncId) : Say := ⟨false, g, [.one (.own 0), .fn c []], [.rows PI true], [], [.rows PI true], fun a s => sortF cf s.1⟩

theorem flat_get (d : Array (Int × Int)) (i j : Nat) (hi : i < d.size) (hj : j < 2) : (flatK encI 2 d)[i * 2 + j]! = (encI d[i]!)[j]! := by
  rw [get_flatK _ _ _ _ (by omega), show (i * 2 + j) / 2 = i by omega, show (i * 2 + j) % 2 = j by omega]
theorem putRow_upd {w : World} {b n : Nat} {c : Array Value} {e : TypeId} {f : Nat × Nat} (h : w.heap[b]? = some (.cells c e f)) (d : Array Value) :
    Upd w b c (putCells id 0 d c) (putRow id (Sort.ahead w n) b 0 d) := by
  refine ⟨rfl, rfl, rfl, by simp, fun i hi => ?_, ⟨e, f, h, ?_⟩, by simp [putCells]⟩
  · unfold putRow mapBlock
    simp [Array.getElem?_modify, Ne.symm hi]
  · unfold putRow mapBlock
    simp [Array.getElem?_modify, h, onCells]
theorem putCells_get (d c : Array Value) (t : Nat) (h1 : t < d.size) (h2 : d.size ≤ c.size) : (putCells id 0 d c)[t]? = some d[t]! := by
  unfold putCells
  rw [Array.getElem?_mapIdx, Array.getElem?_eq_getElem (by omega)]
  simp [h1]
theorem sayOk_sort {P : Program} {g c : FuncId} (he : Enters P g) {cf : Int × Int → Int × Int → Int} (hO : SWO (ltOf cf))
    (h0 : ∀ (a : Option Addr) (cap : Nat) (w : World), Calls P g #[.slice a 0 cap, .func (.func c) #[] #[]] w fun e w' => e = .returned (.tuple #[]) ∧ w' = w)
    (h : ∀ (b cap : Nat) (d : Array (Int × Int)) (w : World), HoldsK encI 2 w b 0 d → b < w.heap.size → d.size < 4611686018427387904 →
      Calls P g #[.slice (some ⟨b, 0, none⟩) d.size cap, .func (.func c) #[] #[]] w fun e w' => e = .returned (.tuple #[]) ∧ ∃ n os, w' = sortWorldK encI 2 w b 0 n (sortA cf d) os) : SayOk P (sortS cf g c) :=
  ⟨rfl, he, fun a s u hu φ => by
    obtain ⟨⟨⟩, ⟨⟩, ⟨⟩⟩ := a
    obtain ⟨xs, ⟨⟩⟩ := s
    obtain ⟨hc, hv⟩ := chk_some (show sortF cf xs = some u from hu)
    simp only [decide_eq_true_eq] at hc
    injection hv with hv
    subst hv
    intro base pb w vals hs hv
    have hs : St base [.rows PI xs 0] pb w := hs
    have hv : VRs [.rows PI xs 0] pb w [.own 0 0, .fn c []] vals := hv
    match vals, hv with
    | [x, y], ⟨hx, hy, _⟩ =>
      obtain ⟨ys, hy, hys⟩ := hy
      have hys : ys = [] := by
        cases ys with
        | nil => rfl
        | cons => exact hys.elim
      subst hys hy
      obtain ⟨_, hx⟩ := hx
      have hx := (hx PI xs 0 rfl).2 rfl
      rcases hx with ⟨b, cap, p1, rfl, p3, p4⟩ | ⟨p1, rfl, a, rfl⟩
      · obtain ⟨ce, e, f, q1, q2, q3, q4⟩ := hs.pl 0 _ _ rfl p1
        have q3 : xs.length * 2 ≤ ce.size := q3
        have q4 : ∀ (i : Nat) (hi : i < xs.length), ∀ j, j < 2 → ce[i * 2 + j]? = (encI xs[i])[j]? := fun i hi j hj => by
          obtain ⟨vs, a1, a2, a3⟩ := q4 i hi
          obtain ⟨u1, u2, rfl, a4, a5⟩ := a3
          have a4 : u1 = [.int .i64 (xs[i] : Int × Int).1] := a4
          have a5 : u2 = [.int .i64 (xs[i] : Int × Int).2] := a5
          subst a4 a5
          exact a2 j hj
        have hb : b < w.heap.size := (hs.bnd 0 b p1).2
        have hH : HoldsK encI 2 w b 0 xs.toArray := by
          intro t ht
          rw [size_flatK] at ht
          have ht : t < xs.length * 2 := by simpa using ht
          have ei : t = t / 2 * 2 + t % 2 := by omega
          have e1 : ce[t]? = some (flatK encI 2 xs.toArray)[t]! := by
            have := q4 (t / 2) (by omega) (t % 2) (by omega)
            rw [← ei] at this
            rw [this]
            conv => rhs; rw [ei]
            rw [flat_get _ _ _ (by simp; omega) (by omega)]
            have hm : t % 2 = 0 ∨ t % 2 = 1 := by omega
            have hl : t / 2 < xs.length := by omega
            rcases hm with hm | hm <;> simp [hm, encI, hl]
          refine ⟨?_, ?_⟩
          · rw [Nat.zero_add, cell_mk w b t q1, e1]
            rfl
          · have hu := q2 t (by omega)
            simp only [World.frozen?, Nat.zero_add, q1]
            simpa using hu
        refine Calls.mono (h b cap xs.toArray w hH hb (by simpa using hc)) fun e' w' hew => ?_
        obtain ⟨rfl, n, os, rfl⟩ := hew
        have hsz : (sortA cf xs.toArray).size = xs.length := by
          have := sortL_len hO xs
          simpa [sortL] using this
        have hu := putRow_upd (n := n) q1 (flatK encI 2 (sortA cf xs.toArray))
        have hsz2 : (flatK encI 2 (sortA cf xs.toArray)).size = xs.length * 2 := by rw [size_flatK, hsz]
        have ha : Alike (.rows PI xs 0) (.rows PI (sortL cf xs) 0) := ⟨rfl, Nat.le_refl _, fun _ => (sortL_len hO xs).symm⟩
        obtain ⟨e1, f1, r1, r2⟩ := hu.at_
        rw [q1] at r1
        cases r1
        have hst := hu.st hs p1 rfl ha ⟨_, _, _, r2, by rw [hu.sz]; exact q2, by rw [hu.sz, sortL_len hO]; exact q3, fun i hi => ⟨encI (sortL cf xs)[i], rfl, fun j hj => ?_, ⟨_, _, rfl, rfl, rfl⟩⟩⟩
        · have hx := hu.ext (σ := [.rows PI xs 0]) (p := .rows PI xs 0) (p' := .rows PI (sortL cf xs) 0) p1 rfl ha (fun i hi => (hs.frn i hi).2)
          have hg : (putRow id (Sort.ahead w n) b 0 (flatK encI 2 (sortA cf xs.toArray))).grownBy (sortWorldK encI 2 w b 0 n (sortA cf xs.toArray) os) none :=
            ⟨rfl, rfl, rfl, by show _ ≤ (_ ++ os).size; rw [Array.size_append]; exact Nat.le_add_right _ _, fun k hk _ => Array.getElem?_append_left (ys := os) hk⟩
          obtain ⟨k1, k2⟩ := grow_ext hg hst
          exact ⟨pb, _, rfl, k2, (hx.trans k1).weak, [], rfl, trivial⟩
        · have hi' : i < xs.length := by rw [sortL_len hO] at hi; exact hi
          have hj' : j < 2 := hj
          show (putCells id 0 _ ce)[i * 2 + j]? = _
          rw [putCells_get _ _ _ (by rw [hsz2]; omega) (by rw [hsz2]; exact q3), flat_get _ _ _ (by rw [hsz]; exact hi') hj']
          have hl : i < (sortA cf xs.toArray).size := by rw [hsz]; exact hi'
          have e2 : (sortA cf xs.toArray)[i]! = (sortL cf xs)[i] := by
            rw [getElem!_pos _ i hl]
            simp [sortL]
          rw [e2]
          have hm : j = 0 ∨ j = 1 := by omega
          rcases hm with rfl | rfl <;> rfl
      · refine Calls.mono (h0 a 0 w) fun e' w' hew => ?_
        obtain ⟨rfl, rfl⟩ := hew
        have e : sortL cf [] = [] := List.eq_nil_of_length_eq_zero (sortL_len hO [])
        have hs' : St base [.rows PI (sortL cf []) 0] pb w' := by rw [e]; exact hs
        refine ⟨pb, _, rfl, hs', ?_, [], rfl, trivial⟩
        show ExtW [.rows PI [] 0] pb w' [.rows PI (sortL cf []) 0] pb w'
        rw [e]
        exact ExtW.refl _ _ _⟩
end Go.Proofs.YtbfkfhadcmpndaaPM
