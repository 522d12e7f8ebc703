/- slices.Delete at rows of texts: what it says, by the library's contract. -/
import Derived.Test.YthkjjombaoffcaaGreatDoorPmLaw
import Derived.Shelf.SlicesE.Delete
set_option linter.unusedVariables false
set_option linter.unusedSectionVars false
set_option linter.unusedSimpArgs false
noncomputable section
namespace Go.Proofs.YthkjjombaoffcaaGreatDoorPM
open Go Go.RowKit Go.Lib Go.Sort

def delL (xs : List ByteArray) (i j : Int) : List ByteArray := xs.take i.toNat ++ xs.drop j.toNat
def delF (xs : List ByteArray) (i j : Int) : Option ((Unit × Unit) × (List ByteArray × Unit)) :=
  chk (decide (0 ≤ i)) (chk (decide (i < j)) (chk (decide (j ≤ (xs.length : Int))) (some (((), ()), (delL xs i j, ())))))
def delS (g : FuncId) : Say := ⟨false, g, [.one (.own 0), .one (.sh (.int .i64)), .one (.sh (.int .i64))], [.rows .str], [.one (.own 0)], [.rows .str], fun a s => delF s.1 a.2.1 a.2.2.1⟩

theorem putRow_updE {α : Type} [Inhabited α] {enc : α → Value} {w : World} {b n : Nat} {c : Array Value} {e : TypeId} {f : Nat × Nat} (h : w.heap[b]? = some (.cells c e f)) (d : Array α) :
    Upd w b c (putCells enc 0 d c) (putRow enc (Sort.ahead w n) b 0 d) := by
  refine ⟨rfl, rfl, rfl, by simp, fun i hi => ?_, ⟨e, f, h, ?_⟩, by simp [putCells]⟩
  · unfold putRow mapBlock
    simp [Array.getElem?_modify, Ne.symm hi]
  · unfold putRow mapBlock
    simp [Array.getElem?_modify, h, onCells]
theorem putCells_getE {α : Type} [Inhabited α] {enc : α → Value} (d : Array α) (c : Array Value) (t : Nat) (h1 : t < d.size) (h2 : d.size ≤ c.size) : (putCells enc 0 d c)[t]? = some (enc d[t]!) := by
  unfold putCells
  rw [Array.getElem?_mapIdx, Array.getElem?_eq_getElem (by omega)]
  simp [h1]
theorem delL_len {xs : List ByteArray} {i j : Int} (h0 : 0 ≤ i) (h1 : i < j) (h2 : j ≤ xs.length) : (delL xs i j).length = xs.length - (j.toNat - i.toNat) := by
  unfold delL
  rw [List.length_append, List.length_take, List.length_drop]
  omega
theorem sayOk_del {P : Program} {g : FuncId} (he : Enters P g)
    (h : ∀ (b cap i j : Nat) (d : Array ByteArray) (w : World), Holds Value.string w b 0 d → d.size ≤ cap → cap ≤ 9223372036854775807 → i ≤ j → j ≤ d.size →
      Calls P g #[.slice (some ⟨b, 0, none⟩) d.size cap, .int .i64 i, .int .i64 j] w fun e w' => e = .returned (.slice (some ⟨b, 0, none⟩) (d.size - (j - i)) cap) ∧
        ∃ q, w' = putRow Value.string (Sort.ahead w q) b 0 (d.toList.take i ++ d.toList.drop j ++ List.replicate (j - i) (⟨#[]⟩ : ByteArray)).toArray) : SayOk P (delS g) :=
  ⟨rfl, he, fun a s u hu φ => by
    obtain ⟨⟨⟩, i, j, ⟨⟩⟩ := a
    obtain ⟨xs, ⟨⟩⟩ := s
    obtain ⟨h0, hu⟩ := chk_some (show delF xs i j = some u from hu)
    obtain ⟨h1, hu⟩ := chk_some hu
    obtain ⟨h2, hv⟩ := chk_some hu
    simp only [decide_eq_true_eq] at h0 h1 h2
    injection hv with hv
    subst hv
    intro base pb w vals hs hv
    have hs : St base [.rows .str xs 0] pb w := hs
    have hv : VRs [.rows .str xs 0] pb w [.own 0 0, .v (.int .i64 i), .v (.int .i64 j)] vals := hv
    match vals, hv with
    | [x, y, z], ⟨hx, hy, hz, _⟩ =>
      have hy : y = .int .i64 i := hy
      have hz : z = .int .i64 j := hz
      subst hy hz
      obtain ⟨_, hx⟩ := hx
      have hx := (hx .str xs 0 rfl).2 rfl
      rcases hx with ⟨b, cap, p1, rfl, p3, p4⟩ | ⟨p1, rfl, a, rfl⟩
      · obtain ⟨ce, e, f, q1, q2, q3, q4⟩ := hs.pl 0 _ _ rfl p1
        have q3 : xs.length * 1 ≤ ce.size := q3
        have q5 : ∀ (i : Nat) (hi : i < xs.length), ce[i]? = some (.string xs[i]) := fun i hi => by
          obtain ⟨vs, a1, a2, a3⟩ := q4 i hi
          have a3 : vs = [.string xs[i]] := a3
          subst a3
          have := a2 0 (by decide)
          simpa [Sh.n] using this
        obtain ⟨c1, e1, f1, r1, r2, r3⟩ := p4
        have r4 : CapOk .str cap f1 c1.size := r3
        have r3 : cap ≤ 9223372036854775807 := (r4 rfl).1
        have hH : Holds Value.string w b 0 xs.toArray := by
          intro t ht
          have ht : t < xs.length := by simpa using ht
          refine ⟨?_, ?_⟩
          · rw [Nat.zero_add, cell_mk w b t q1, q5 t ht]
            simp [ht]
          · have hu := q2 t (by omega)
            simp only [World.frozen?, Nat.zero_add, q1]
            simpa using hu
        obtain ⟨m, rfl⟩ := Int.eq_ofNat_of_zero_le h0
        obtain ⟨n, rfl⟩ := Int.eq_ofNat_of_zero_le (Int.le_of_lt (Int.lt_of_le_of_lt (Int.natCast_nonneg _) h1))
        have hn : n ≤ xs.length := by omega
        have hm : m < n := by omega
        have hlen := delL_len h0 h1 h2
        simp only [Int.toNat_natCast] at hlen
        refine Calls.mono (h b cap m n xs.toArray w hH (by simpa using p3) r3 (by omega) (by simpa using hn)) fun e' w' hew => ?_
        obtain ⟨rfl, q, rfl⟩ := hew
        have hu := putRow_updE (n := q) (enc := Value.string) q1 (xs.toArray.toList.take m ++ xs.toArray.toList.drop n ++ List.replicate (n - m) (⟨#[]⟩ : ByteArray)).toArray
        have hsz : (xs.toArray.toList.take m ++ xs.toArray.toList.drop n ++ List.replicate (n - m) (⟨#[]⟩ : ByteArray)).toArray.size = xs.length := by
          simp
          omega
        have ha : Alike (.rows .str xs 0) (.rows .str (delL xs m n) 1) := ⟨rfl, Nat.zero_le _, fun h => by cases h⟩
        obtain ⟨e2, f2, s1, s2⟩ := hu.at_
        rw [q1] at s1
        cases s1
        have hx := hu.ext (σ := [.rows .str xs 0]) (p := .rows .str xs 0) (p' := .rows .str (delL xs m n) 1) p1 rfl ha (fun i hi => (hs.frn i hi).2)
        have hst := hu.st hs p1 rfl ha ⟨_, _, _, s2, by rw [hu.sz]; exact q2, by rw [hu.sz, hlen]; simp only [Sh.n]; omega, fun i hi => ⟨[.string (delL xs m n)[i]], rfl, fun k hk => ?_, rfl⟩⟩
        · refine ⟨pb, _, rfl, hst, hx.weak, ?_⟩
          refine ⟨by show 0 < 1; decide, fun r xs' g' hk => ?_⟩
          have hk : some (Place.rows .str (delL xs m n) 1) = some (.rows r xs' g') := hk
          cases hk
          refine ⟨Nat.le_refl _, fun _ => .inl ⟨b, cap, p1, ?_, ?_, ?_⟩⟩
          · rw [hlen]; rfl
          · rw [hlen]; omega
          · rw [q1] at r1
            cases r1
            exact ⟨_, _, _, s2, by rw [hu.sz]; exact r2, by rw [hu.sz]; exact r4⟩
        · have hk : k < 1 := hk
          have : k = 0 := by omega
          subst this
          show (putCells Value.string 0 _ ce)[i * 1 + 0]? = _
          rw [Nat.mul_one, Nat.add_zero, putCells_getE _ _ _ (by rw [hsz]; omega) (by rw [hsz]; omega)]
          have hi' : i < (xs.take m ++ xs.drop n).length := by simpa [delL] using hi
          show some (Value.string ((xs.take m ++ xs.drop n ++ List.replicate (n - m) (⟨#[]⟩ : ByteArray)).toArray[i]!)) = some (.string (xs.take m ++ xs.drop n)[i])
          rw [getElem!_pos _ i (by simp at hi' ⊢; omega)]
          congr 2
          exact List.getElem_append_left hi'
      · simp at h2
        omega⟩
end Go.Proofs.YthkjjombaoffcaaGreatDoorPM
