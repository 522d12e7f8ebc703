/- The row that '[]byte(s)' makes: its bytes, read, stored and made a string again. -/
import Derived.Test.YtcngjidojibleaaStr
import Derived.Lib.ConvBytes
set_option linter.unusedVariables false
set_option linter.unusedSimpArgs false
namespace Go.Proofs.Ytcngjidojibleaa.CR
open Go.RowKit Go.Proofs.Ytcngjidojibleaa.B Go.Proofs.YtcngjidojibleaaW.PrintWords Go.Proofs.YtcngjidojibleaaW.PrintLast Go.Proofs.YtcngjidojibleaaW.PrintMore

/-- The row g begins with the bytes xs, and none of them is held. -/
def BRow (w : World) (g : Nat) (e : TypeId) (xs : List Int) : Prop :=
  ∃ cur fz, w.heap[g]? = some (.cells cur e fz) ∧ xs.length ≤ fz.1 ∧ cur.toList.take xs.length = nums .u8 xs

theorem BRow.le {w : World} {g : Nat} {e : TypeId} {xs : List Int} (h : BRow w g e xs) : ∃ cur fz, w.heap[g]? = some (.cells cur e fz) ∧ xs.length ≤ fz.1 ∧ xs.length ≤ cur.size ∧ ∀ i, i < xs.length → cur[i]? = some (.int .u8 (xs.getD i 0)) := by
  obtain ⟨cur, fz, hh, hf, ht⟩ := h
  have hl := congrArg List.length ht
  simp only [List.length_take, nums, List.length_map, Array.length_toList] at hl
  refine ⟨cur, fz, hh, hf, by omega, fun i hi => ?_⟩
  have h1 : (cur.toList.take xs.length)[i]? = (nums .u8 xs)[i]? := by rw [ht]
  rw [List.getElem?_take_of_lt hi, Array.getElem?_toList] at h1
  rw [h1]
  simp [nums, List.getElem?_eq_getElem hi, List.getD_eq_getElem?_getD]

theorem BRow.cell {w : World} {g : Nat} {e : TypeId} {xs : List Int} (h : BRow w g e xs) (i : Nat) (hi : i < xs.length) : w.cell? ⟨g, i, none⟩ = some (.int .u8 (xs.getD i 0)) ∧ w.frozen? ⟨g, i, none⟩ = false := by
  obtain ⟨cur, fz, hh, hf, hl, hc⟩ := h.le
  obtain ⟨f1, f2⟩ := fz
  constructor
  · rw [cell_of_row w g i cur e _ hh]; exact hc i hi
  · simp only [World.frozen?, hh]
    simp only at hf
    have : ¬ f1 ≤ i := by omega
    simp [this]

theorem BRow.set {w : World} {g : Nat} {e : TypeId} {xs : List Int} (h : BRow w g e xs) (i : Nat) (x : Int) : BRow (w.setCell ⟨g, i, none⟩ (.int .u8 x)) g e (xs.set i x) := by
  obtain ⟨cur, fz, hh, hf, ht⟩ := h
  refine ⟨cur.setIfInBounds i (.int .u8 x), fz, ?_, by simpa using hf, ?_⟩
  · simp [World.setCell, Array.getElem?_modify, hh]
  · have e1 : nums .u8 (xs.set i x) = (nums .u8 xs).set i (.int .u8 x) := by simp [nums, List.map_set]
    rw [e1, ← ht, List.length_set, Array.toList_setIfInBounds, List.take_set]

theorem BRow.reads {w : World} {g : Nat} {e : TypeId} {xs : List Int} (h : BRow w g e xs) (hm : xs.length ≤ 9223372036854775807) : ReadsInt w .u8 (some ⟨g, 0, none⟩) xs.length xs := by
  refine ⟨rfl, hm, fun _ => ⟨_, rfl, fun j hj => ?_⟩⟩
  have := (h.cell j hj).1
  have ha : (⟨g, 0, none⟩ : Addr).add j = ⟨g, j, none⟩ := add_plain g j
  rw [ha]; exact this

theorem BRow.below {w w1 : World} {g : Nat} {e : TypeId} {xs : List Int} (h : BRow w g e xs) (hb : Below w.heap.size w w1) : BRow w1 g e xs := by
  obtain ⟨cur, fz, hh, hf, ht⟩ := h
  exact ⟨cur, fz, (hb.block g (Array.getElem?_eq_some_iff.1 hh).1).trans hh, hf, ht⟩

theorem BRow.drew {w : World} {g : Nat} {e : TypeId} {xs : List Int} (h : BRow w g e xs) (n : Nat) : BRow (w.drewN n) g e xs := h

section
variable {P : Program} {ops : Array Oper} {rest : List Oper} {o : Oper} {a : Act} {Q : Exit → Act → World → Prop}
theorem conv_event {W : World} (hgd : o.guard = none) {N : Tmp} (_hd : o.dst = some N) (src dst e : TypeId) (x : Operand) (s : ByteArray)
    (ho : o.op = .convert src dst x) (hx : a.eval x = .string s) (hs : P.underlying src = some .string) (hd : P.underlying dst = some (.slice e)) (he : P.underlying e = some (.int .u8))
    (h : ∀ g cap w1, g = W.heap.size → BRow w1 g e (B s) → Below W.heap.size W w1 → wpList P ops Q rest (a.put o.dst (.slice (some ⟨g, 0, none⟩) s.size cap)) w1) :
    wpList P ops Q (o :: rest) a W := by
  have hrun : (execOp a.eval o).run P W = .ok (.value (.slice (some ⟨W.heap.size, 0, none⟩) s.size (grownCap W s.size 0 e))) (Lib.bytesWorld W e s) := by
    unfold execOp
    simp [ho, hx, Lib.run_convert_string_bytes W src dst e s hs hd he, Result.andThen]
  refine Kd.event_run hgd hrun (h _ _ _ rfl ?_ ?_)
  · refine ⟨_, _, Lib.bytesWorld_at_new W e s, ?_, ?_⟩
    · have : (Lib.bytesCells W e s).size = s.size + (grownCap W s.size 0 e - s.size) := by simp [Lib.bytesCells]
      simp only [B_length]; omega
    · simp only [B_length, Lib.bytesCells, Array.toList_append]
      rw [List.take_append_of_le_length (by simp), List.take_of_length_le (by simp)]
      simp [nums, B, List.map_map]
  · refine ⟨?_, ?_, ?_, ?_, ?_⟩
    · simp [Lib.bytesWorld, World.freeze, World.alloc, World.drew, -World.alloc_eq, -World.drew_eq]
    · simp [Lib.bytesWorld, World.freeze, World.alloc, World.drew, -World.alloc_eq, -World.drew_eq]
    · simp [Lib.bytesWorld, World.freeze, World.alloc, World.drew, -World.alloc_eq, -World.drew_eq]
    · rw [Lib.bytesWorld_size]; omega
    · intro j hj; exact Lib.bytesWorld_at_old W e s j hj
theorem string_event {W : World} (hgd : o.guard = none) {N : Tmp} (_hd : o.dst = some N) (src dst e e' : TypeId) (x : Operand) {g n cap : Nat} {xs : List Int} (hrow : BRow W g e' xs) (hn : xs.length = n) (hm : n ≤ 9223372036854775807)
    (ho : o.op = .convert src dst x) (hx : a.eval x = .slice (some ⟨g, 0, none⟩) n cap) (hs : P.underlying src = some (.slice e)) (he : P.underlying e = some (.int .u8)) (hd : P.underlying dst = some .string)
    (h : wpList P ops Q rest (a.put o.dst (.string (strOfNums xs))) W) :
    wpList P ops Q (o :: rest) a W := by
  subst hn
  have hrun : (execOp a.eval o).run P W = .ok (.value (.string (strOfNums xs))) W := by
    unfold execOp
    simp [ho, hx, string_of_reads (c := cap) hs he hd (hrow.reads hm), Result.andThen]
  exact Kd.event_run hgd hrun h
end
end Go.Proofs.Ytcngjidojibleaa.CR
