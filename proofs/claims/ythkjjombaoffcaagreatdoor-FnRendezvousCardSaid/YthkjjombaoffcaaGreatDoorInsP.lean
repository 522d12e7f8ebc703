/- slices.Insert at rows of texts: what it says, by the library's contract. -/
import Derived.Test.YthkjjombaoffcaaGreatDoorPmLaw
import Derived.Shelf.Spec.SlicesInsertGrow
set_option linter.unusedVariables false
set_option linter.unusedSectionVars false
set_option linter.unusedSimpArgs false
noncomputable section
namespace Go.Proofs.YthkjjombaoffcaaGreatDoorPM
open Go Go.RowKit Go.Lib Go.Shelf

def insL (xs : List ByteArray) (i : Int) (ys : List ByteArray) : List ByteArray := xs.take i.toNat ++ ys ++ xs.drop i.toNat
def insF (xs : List ByteArray) (i : Int) (ys : List ByteArray) : Option ((Unit × Unit) × (List ByteArray × (List ByteArray × Unit))) :=
  chk (decide (0 ≤ i)) (chk (decide (i ≤ (xs.length : Int))) (chk (decide (0 < ys.length)) (chk (decide (xs.length + ys.length < 68719476736)) (some (((), ()), (insL xs i ys, (ys, ())))))))
def insS (g : FuncId) : Say := ⟨false, g, [.one (.own 0), .one (.sh (.int .i64)), .one (.own 1)], [.rows .str, .rows .str], [.one (.own 0)], [.rows .str, .rows .str true], fun a s => insF s.1 a.2.1 s.2.1⟩

section
variable [Foreign]
theorem Upd.cells {b : Nat} : ∀ (vs : List Value) (o : Nat) (w : World) (c : Array Value) (e : TypeId) (f : Nat × Nat), w.heap[b]? = some (.cells c e f) → Upd w b c (setArr c o vs) (w.setCells b o vs)
  | [], _, w, c, e, f, h => Upd.refl h
  | v :: r, o, w, c, e, f, h => by
    have h1 := Upd.setCell (o := o) h v
    obtain ⟨e', f', h2, h3⟩ := h1.at_
    exact h1.trans (Upd.cells r (o + 1) _ _ _ _ h3)
theorem Upd.drew {b : Nat} {w w' : World} {c c' : Array Value} (h : Upd w b c c' w') : Upd w b c c' w'.drew :=
  ⟨h.os, h.tape, h.output, h.size, h.other, h.at_, h.sz⟩
theorem Upd.pre {b : Nat} {w w' : World} {c c' : Array Value} (h : Upd w.drew b c c' w') : Upd w b c c' w' :=
  ⟨h.os, h.tape, h.output, h.size, h.other, h.at_, h.sz⟩
theorem Push.upd {w W W' : World} {c c' : Array Value} {e : TypeId} {f : Nat × Nat} (h : Push w W (.cells c e f)) (hu : Upd W w.heap.size c c' W') : Push w W' (.cells c' e f) := by
  refine ⟨hu.os.trans h.os, hu.tape.trans h.tape, hu.output.trans h.output, hu.size.trans h.size, fun j hj => (hu.other j (by omega)).trans (h.old j hj), ?_⟩
  obtain ⟨e', f', h1, h2⟩ := hu.at_
  rw [h.new] at h1
  cases h1
  exact h2
theorem Push.pre {w w' : World} {o : Obj} (h : Push w.drew w' o) : Push w w' o := ⟨h.os, h.tape, h.output, h.size, h.old, h.new⟩
theorem Push.drew {w w' : World} {o : Obj} (h : Push w w' o) : Push w w'.drew o := ⟨h.os, h.tape, h.output, h.size, h.old, h.new⟩

variable {base : Nat} {pb : Pb} {w w' : World} {xs ys zs : List ByteArray} {b cap : Nat} {ce C : Array Value} {e : TypeId} {f : Nat × Nat}
abbrev SS (xs : List ByteArray) (g : Nat) (ys : List ByteArray) : Sig := [.rows .str xs g, .rows .str ys 0]
theorem ins_upd (hs : St base (SS xs 0 ys) pb w) (p1 : pb[0]? = some (some b)) (q1 : w.heap[b]? = some (.cells ce e f)) (q2 : Unfrozen f ce.size) (p4 : BlockOf w b cap .str) (hu : Upd w b ce C w')
    (hz : ∀ t (h : t < zs.length), C[t]? = some (.string zs[t])) (hl : zs.length ≤ cap) :
    ∃ pb' y, Ending.returned (.slice (some ⟨b, 0, none⟩) zs.length cap) = Ending.returned y ∧ St base (SS zs 1 ys) pb' w' ∧ ExtW (SS xs 0 ys) pb w (SS zs 1 ys) pb' w' ∧ VR (SS zs 1 ys) pb' w' (.own 0 1) y := by
  obtain ⟨c1, e1, f1, r1, r2, r3⟩ := p4
  rw [q1] at r1
  cases r1
  have r2 : cap * 1 ≤ ce.size := r2
  have ha : Alike (.rows .str xs 0) (.rows .str zs 1) := ⟨rfl, Nat.zero_le _, fun h => by cases h⟩
  obtain ⟨e2, f2, s1, s2⟩ := hu.at_
  rw [q1] at s1
  cases s1
  have hx := hu.ext (σ := SS xs 0 ys) (p := .rows .str xs 0) (p' := .rows .str zs 1) p1 rfl ha (fun i hi => (hs.frn i hi).2)
  have hst := hu.st hs p1 rfl ha ⟨_, _, _, s2, by rw [hu.sz]; exact q2, by rw [hu.sz]; simp only [Sh.n]; omega, fun i hi => ⟨[.string zs[i]], rfl, fun k hk => ?_, rfl⟩⟩
  · refine ⟨pb, _, rfl, hst, hx.weak, by show 0 < 2; decide, fun r xs' g' hk => ?_⟩
    have hk : some (Place.rows .str zs 1) = some (.rows r xs' g') := hk
    cases hk
    exact ⟨Nat.le_refl _, fun _ => .inl ⟨b, cap, p1, rfl, hl, _, _, _, s2, by rw [hu.sz]; exact (show cap * 1 ≤ _ from r2), by rw [hu.sz]; exact r3⟩⟩
  · have hk : k < 1 := hk
    have : k = 0 := by omega
    subst this
    show C[i * 1 + 0]? = _
    rw [Nat.mul_one, Nat.add_zero, hz i hi]
    rfl
theorem ins_push (hs : St base (SS xs 0 ys) pb w) (hW : Push w w' (.cells C e (0, 0))) (hz : ∀ t (h : t < zs.length), C[t]? = some (.string zs[t])) (hl : zs.length ≤ cap) (hC : C.size = cap) (hm : cap ≤ 9223372036854775807) :
    ∃ pb' y, Ending.returned (.slice (some ⟨w.heap.size, 0, none⟩) zs.length cap) = Ending.returned y ∧ St base (SS zs 1 ys) pb' w' ∧ ExtW (SS xs 0 ys) pb w (SS zs 1 ys) pb' w' ∧ VR (SS zs 1 ys) pb' w' (.own 0 1) y := by
  have hz' : ∀ (i : Nat) (hi : i < zs.length) (k : Nat), k < 1 → C[i * 1 + k]? = [Value.string zs[i]][k]? := fun i hi k hk => by
    have : k = 0 := by omega
    subst this
    rw [Nat.mul_one, Nat.add_zero, hz i hi]
    rfl
  obtain ⟨hx, hst⟩ := push_replace (xs' := zs) (g' := 1) hW hs (k := 0) (r := .str) (xs := xs) (g := 0) rfl (by decide) (fun σ' pb' he => ⟨_, _, _, hW.new, fun o _ h => by omega, by simp only [Sh.n]; omega, fun i hi => ⟨[.string zs[i]], rfl, hz' i hi, rfl⟩⟩)
  refine ⟨_, _, rfl, hst, hx.weak, by show 0 < 2; decide, fun r xs' g' hk => ?_⟩
  have hk : some (Place.rows .str zs 1) = some (.rows r xs' g') := hk
  cases hk
  have hl0 : 0 < pb.length := by rw [hs.len]; show 0 < 2; decide
  exact ⟨Nat.le_refl _, fun _ => .inl ⟨w.heap.size, cap, by simp [hl0], rfl, hl, _, _, _, hW.new, by simp only [Sh.n]; omega, CapOk.of hm⟩⟩
theorem arr_at {C : Array Value} {l : List Value} {o : Nat} (h : o + l.length ≤ C.size) (p : Nat) : (setArr C o l)[p]? = if o ≤ p ∧ p < o + l.length then l[p - o]? else C[p]? := by
  rw [← Array.getElem?_toList, setL_arr, setL_get _ _ _ _ (by simpa using h)]
  by_cases hc : o ≤ p ∧ p < o + l.length
  · rw [if_pos hc, if_pos hc]
  · rw [if_neg hc, if_neg hc, Array.getElem?_toList]
end
theorem insL_len {xs ys : List ByteArray} {i : Nat} (h : i ≤ xs.length) : (insL xs i ys).length = xs.length + ys.length := by
  unfold insL
  rw [List.length_append, List.length_append, List.length_take, List.length_drop]
  omega
theorem insL_at {xs ys : List ByteArray} {i : Nat} (h : i ≤ xs.length) (t : Nat) : (insL xs i ys)[t]? = if t < i then xs[t]? else if t < i + ys.length then ys[t - i]? else xs[t - ys.length]? := by
  unfold insL
  rw [Int.toNat_natCast]
  have hl : (xs.take i).length = i := by rw [List.length_take]; omega
  by_cases h1 : t < i
  · rw [if_pos h1, List.append_assoc, List.getElem?_append_left (by omega), List.getElem?_take, if_pos h1]
  · rw [if_neg h1]
    by_cases h2 : t < i + ys.length
    · rw [if_pos h2, List.getElem?_append_left (by rw [List.length_append]; omega), List.getElem?_append_right (by omega), hl]
    · rw [if_neg h2, List.getElem?_append_right (by rw [List.length_append]; omega), List.length_append, hl, List.getElem?_drop]
      congr 1
      omega
theorem some_at {zs : List ByteArray} {t : Nat} (h : t < zs.length) {C : Array Value} (hc : C[t]? = (zs[t]?).map Value.string) : C[t]? = some (.string zs[t]) := by
  rw [hc, List.getElem?_eq_getElem h]
  rfl
theorem ins_end [Foreign] {base : Nat} {pb : Pb} {w : World} {xs ys : List ByteArray} {G : Nat} {e : TypeId} (hs : St base (SS xs 0 ys) pb w) (m1 : xs.length + ys.length ≤ G) (m2 : G ≤ 9223372036854775807) :
    ∃ pb' y, Ending.returned (.slice (some ⟨w.heap.size, 0, none⟩) (xs.length + ys.length) G) = Ending.returned y ∧ St base (SS (insL xs xs.length ys) 1 ys) pb' (w.drew.alloc (.cells ((xs.map Value.string ++ ys.map Value.string).toArray ++ Builtin.zeroCells (Value.string ⟨#[]⟩).cells (G - (xs.length + ys.length))) e)) ∧
      ExtW (SS xs 0 ys) pb w (SS (insL xs xs.length ys) 1 ys) pb' (w.drew.alloc (.cells ((xs.map Value.string ++ ys.map Value.string).toArray ++ Builtin.zeroCells (Value.string ⟨#[]⟩).cells (G - (xs.length + ys.length))) e)) ∧
      VR (SS (insL xs xs.length ys) 1 ys) pb' (w.drew.alloc (.cells ((xs.map Value.string ++ ys.map Value.string).toArray ++ Builtin.zeroCells (Value.string ⟨#[]⟩).cells (G - (xs.length + ys.length))) e)) (.own 0 1) y := by
  have hlen := insL_len (xs := xs) (ys := ys) (Nat.le_refl xs.length)
  have hzs : ∀ n, (Builtin.zeroCells (Value.string ⟨#[]⟩).cells n).size = n := fun n => by simp [Builtin.zeroCells, Value.cells]
  have m3 : (insL xs xs.length ys).length ≤ G := by omega
  rw [show xs.length + ys.length = (insL xs xs.length ys).length from hlen.symm]
  refine ins_push hs (drew_push w _) (fun t ht => some_at ht ?_) m3 (by rw [Array.size_append, hzs]; simp; omega) m2
  rw [hlen] at ht
  rw [Array.getElem?_append_left (by simp; omega), List.getElem?_toArray, insL_at (Nat.le_refl _)]
  by_cases g1 : t < xs.length
  · rw [if_pos g1, List.getElem?_append_left (by simpa using g1), List.getElem?_map]
  · rw [if_neg g1, if_pos (by omega), List.getElem?_append_right (by simp; omega), List.length_map, List.getElem?_map]
theorem sayOk_ins {P : Program} {ρ : Ren} (L : Lays2.n22 P ρ) (he : Enters P (ρ.f 22)) : SayOk P (insS (ρ.f 22)) :=
  ⟨rfl, he, fun a s u hu φ => by
    obtain ⟨⟨⟩, i, ⟨⟩, ⟨⟩⟩ := a
    obtain ⟨xs, ys, ⟨⟩⟩ := s
    obtain ⟨h0, hu⟩ := chk_some (show insF xs i ys = some u from hu)
    obtain ⟨h1, hu⟩ := chk_some hu
    obtain ⟨h2, hu⟩ := chk_some hu
    obtain ⟨h3, hv⟩ := chk_some hu
    simp only [decide_eq_true_eq] at h0 h1 h2 h3
    injection hv with hv
    subst hv
    intro base pb w vals hs hv
    have hs : St base (SS xs 0 ys) pb w := hs
    have hv : VRs (SS xs 0 ys) pb w [.own 0 0, .v (.int .i64 i), .own 1 0] vals := hv
    match vals, hv with
    | [x, y, z], ⟨hx, hy, hz, _⟩ =>
      have hy : y = .int .i64 i := hy
      subst hy
      obtain ⟨i, rfl⟩ := Int.eq_ofNat_of_zero_le h0
      have h1 : i ≤ xs.length := Int.ofNat_le.1 h1
      obtain ⟨_, hx⟩ := hx
      obtain ⟨_, hz⟩ := hz
      have hx := (hx .str xs 0 rfl).2 rfl
      have hz := (hz .str ys 0 rfl).2 rfl
      have goal : ∀ (e' : Ending) (w' : World), (∃ pb' y, e' = Ending.returned y ∧ St base (SS (insL xs i ys) 1 ys) pb' w' ∧ ExtW (SS xs 0 ys) pb w (SS (insL xs i ys) 1 ys) pb' w' ∧ VR (SS (insL xs i ys) 1 ys) pb' w' (.own 0 1) y) →
        ∃ pb' y, e' = Ending.returned y ∧ St base (encPs (resI (insS (ρ.f 22)).qk) 0 (insS (ρ.f 22)).qk (insL xs i ys, (ys, ()))) pb' w' ∧ ExtW (encPs locI 0 (insS (ρ.f 22)).pk (xs, (ys, ()))) pb w (encPs (resI (insS (ρ.f 22)).qk) 0 (insS (ρ.f 22)).qk (insL xs i ys, (ys, ()))) pb' w' ∧
          VR (encPs (resI (insS (ρ.f 22)).qk) 0 (insS (ρ.f 22)).qk (insL xs i ys, (ys, ()))) pb' w' (packRes (encAs (resI (insS (ρ.f 22)).qk) (insS (ρ.f 22)).rk ((), ()))) y := fun e' w' h => h
      -- what goes in
      rcases hz with ⟨vb, vc, z1, rfl, z3, z4⟩ | ⟨_, e0, _⟩
      case inr => subst e0; exact absurd h2 (by decide)
      obtain ⟨cv, ev, fv, y1, y2, y3, y4⟩ := hs.pl 1 _ _ rfl z1
      have y3 : ys.length * 1 ≤ cv.size := y3
      have y5 : ∀ (t : Nat) (ht : t < ys.length), cv[t]? = some (.string ys[t]) := fun t ht => by
        obtain ⟨vs, a1, a2, a3⟩ := y4 t ht
        have a3 : vs = [.string ys[t]] := a3
        subst a3
        have := a2 0 (by decide)
        simpa [Sh.n] using this
      obtain ⟨cv', ev', fv', z5, z6, z7⟩ := z4
      rw [y1] at z5
      cases z5
      have hsa : w.shape? vb = some (ev, cv.size) := by simp [World.shape?, y1]
      have hfa : w.frozen? ⟨vb, 0, none⟩ = false := by
        have := y2 0 (by omega)
        simp only [World.frozen?, y1]
        simpa using this
      have hfe : w.frozen? ⟨vb, cv.size, none⟩ = false := by
        have := (z7 rfl).2
        simp only [World.frozen?, y1]
        simp
        omega
      have hvl : (ys.map Value.string).length = ys.length := List.length_map _
      have hvs : ∀ (j : Nat) v, (ys.map Value.string)[j]? = some v → w.cell? ⟨vb, 0 + j, none⟩ = some v := fun j v hj => by
        rw [List.getElem?_map] at hj
        obtain ⟨t, ht, rfl⟩ := Option.map_eq_some_iff.1 hj
        obtain ⟨hj', rfl⟩ := List.getElem?_eq_some_iff.1 ht
        rw [Nat.zero_add, cell_mk w vb j y1]
        exact y5 j hj'
      have h1v : ∀ v ∈ ys.map Value.string, v.oneCell' = true := fun v hv => by
        obtain ⟨t, _, rfl⟩ := List.mem_map.1 hv
        rfl
      have h1c : ∀ v ∈ xs.map Value.string, v.oneCell' = true := fun v hv => by
        obtain ⟨t, _, rfl⟩ := List.mem_map.1 hv
        rfl
      have hcl : (xs.map Value.string).length = xs.length := List.length_map _
      have hlen := insL_len (ys := ys) h1
      have hmax : ∀ old, xs.length + ys.length ≤ grownCap w (xs.length + ys.length) old (ρ.t 9) ∧ grownCap w (xs.length + ys.length) old (ρ.t 9) ≤ 9223372036854775807 := fun old => by
        have a1 := cap_ge w (xs.length + ys.length) old (ρ.t 9)
        have a2 := cap_le (w := w) (need := xs.length + ys.length) (old := old) (e := ρ.t 9) (by unfold most; exact h3)
        exact ⟨a1, by omega⟩
      rcases hx with ⟨b, cap, p1, rfl, p3, p4⟩ | ⟨p1, rfl, a, rfl⟩
      · obtain ⟨ce, e, f, q1, q2, q3, q4⟩ := hs.pl 0 _ _ rfl p1
        have q3 : xs.length * 1 ≤ ce.size := q3
        have q5 : ∀ (t : Nat) (ht : t < xs.length), ce[t]? = some (.string xs[t]) := fun t ht => by
          obtain ⟨vs, a1, a2, a3⟩ := q4 t ht
          have a3 : vs = [.string xs[t]] := a3
          subst a3
          have := a2 0 (by decide)
          simpa [Sh.n] using this
        have q6 : ∀ (t : Nat), t < xs.length → ce[t]? = (xs[t]?).map Value.string := fun t ht => by
          rw [q5 t ht, List.getElem?_eq_getElem ht]
          rfl
        have hvb : vb ≠ b := fun e => by
          subst e
          have := hs.inj 0 1 vb p1 z1
          cases this
        have hcs : ∀ (j : Nat) v, (xs.map Value.string)[j]? = some v → w.cell? ⟨b, 0 + j, none⟩ = some v := fun j v hj => by
          rw [List.getElem?_map] at hj
          obtain ⟨t, ht, rfl⟩ := Option.map_eq_some_iff.1 hj
          obtain ⟨hj', rfl⟩ := List.getElem?_eq_some_iff.1 ht
          rw [Nat.zero_add, cell_mk w b j q1]
          exact q5 j hj'
        have p5 := p4
        obtain ⟨c1, e1, f1, r1, r2, r3⟩ := p5
        rw [q1] at r1
        cases r1
        have r2 : cap * 1 ≤ ce.size := r2
        have hcap := (r3 rfl).1
        have hsp : ∀ j, j < ce.size → (w.cell? ⟨b, j, none⟩).isSome = true := fun j hj => by
          rw [cell_mk w b j q1, Array.getElem?_eq_getElem hj]
          rfl
        have hfz : ∀ j, j < ce.size → w.frozen? ⟨b, j, none⟩ = false := fun j hj => by
          have := q2 j hj
          simp only [World.frozen?, q1]
          simpa using this
        by_cases hroom : xs.length + ys.length ≤ cap
        · by_cases hi : i < xs.length
          · refine Calls.mono (Any2.slices_Insert_string_shift L b 0 xs.length cap i vb 0 ys.length vc (xs.map Value.string) (ys.map Value.string) w hi h2 hroom hcap hvb hcl hvl hcs
              (fun j hj => by rw [Nat.zero_add]; exact hsp j (by omega)) (fun j hj => by rw [Nat.zero_add]; exact hfz j (by omega)) hvs h1c h1v ev e cv.size ce.size hsa (by simp [World.shape?, q1]) (by omega) hfa hfe) fun e' w' hew => goal e' w' ?_
            obtain ⟨rfl, rfl⟩ := hew
            have hu1 := Upd.pre (Upd.cells (b := b) ((xs.map Value.string).drop i) (0 + (i + ys.length)) w.drew ce e f q1)
            obtain ⟨e2, f2, s1, s2⟩ := hu1.at_
            have hu := hu1.trans (Upd.cells (b := b) (ys.map Value.string) (0 + i) _ _ _ _ s2)
            have hdl : ((xs.map Value.string).drop i).length = xs.length - i := by rw [List.length_drop, hcl]
            rw [← hlen] at hroom ⊢
            refine ins_upd hs p1 q1 q2 p4 hu (fun t ht => some_at ht ?_) hroom
            rw [hlen] at ht
            rw [arr_at (by rw [setArr_size, hvl]; omega), hvl, arr_at (by rw [hdl]; omega), hdl, insL_at h1, Nat.zero_add, Nat.zero_add]
            by_cases g1 : t < i
            · rw [if_neg (by omega), if_neg (by omega), if_pos g1, q6 t (by omega)]
            · by_cases g2 : t < i + ys.length
              · rw [if_pos (by omega), if_neg g1, if_pos g2, List.getElem?_map]
              · rw [if_neg (by omega), if_pos (by omega), if_neg g1, if_neg g2, List.getElem?_drop, List.getElem?_map]
                congr 2
                omega
          · have hi : i = xs.length := by omega
            subst hi
            refine Calls.mono (Any2.slices_Insert_string_end_room L b 0 xs.length cap vb 0 ys.length vc (ys.map Value.string) w h2 hroom hcap hvl
              (fun j hj => by exact hsp _ (by omega)) (fun j hj => by exact hfz _ (by omega)) hvs h1v) fun e' w' hew => goal e' w' ?_
            obtain ⟨rfl, rfl⟩ := hew
            have hu := Upd.cells (b := b) (ys.map Value.string) (0 + xs.length) w ce e f q1
            rw [← hlen] at hroom ⊢
            refine ins_upd hs p1 q1 q2 p4 hu (fun t ht => some_at ht ?_) hroom
            rw [hlen] at ht
            rw [arr_at (by rw [hvl]; omega), hvl, insL_at h1, Nat.zero_add]
            by_cases g1 : t < xs.length
            · rw [if_neg (by omega), if_pos g1, q6 t g1]
            · rw [if_pos (by omega), if_neg g1, if_pos (by omega), List.getElem?_map]
        · have hroom : cap < xs.length + ys.length := by omega
          obtain ⟨m1, m2⟩ := hmax cap
          by_cases hi : i < xs.length
          · refine Calls.mono (Any2.slices_Insert_string_grow L b 0 xs.length cap i vb 0 ys.length vc (xs.map Value.string) (ys.map Value.string) w hi h2 p3 hroom (by omega) hcl hvl hcs hvs h1c h1v) fun e' w' hew => goal e' w' ?_
            obtain ⟨rfl, rfl⟩ := hew
            generalize grownCap w (xs.length + ys.length) cap (ρ.t 9) = G at m1 m2
            have hp0 : Push w (w.alloc (.cells (((xs.map Value.string).take i).toArray ++ Builtin.zeroCells (Value.string ⟨#[]⟩).cells (xs.length + ys.length - i) ++ Builtin.zeroCells (Value.string ⟨#[]⟩).cells (G - (xs.length + ys.length))) (ρ.t 9))) (.cells (((xs.map Value.string).take i).toArray ++ Builtin.zeroCells (Value.string ⟨#[]⟩).cells (xs.length + ys.length - i) ++ Builtin.zeroCells (Value.string ⟨#[]⟩).cells (G - (xs.length + ys.length))) (ρ.t 9) (0, 0)) :=
              ⟨rfl, rfl, rfl, by simp, fun j hj => pushW_old w _ j hj, pushW_new w _⟩
            have hzs : ∀ n, (Builtin.zeroCells (Value.string ⟨#[]⟩).cells n).size = n := fun n => by simp [Builtin.zeroCells, Value.cells]
            obtain ⟨C0, hC0⟩ : ∃ C0, C0 = ((xs.map Value.string).take i).toArray ++ Builtin.zeroCells (Value.string ⟨#[]⟩).cells (xs.length + ys.length - i) ++ Builtin.zeroCells (Value.string ⟨#[]⟩).cells (G - (xs.length + ys.length)) := ⟨_, rfl⟩
            have hsz0 : C0.size = G := by
              rw [hC0, Array.size_append, Array.size_append, hzs, hzs]
              simp
              omega
            have hC1 : ∀ t, t < i → C0[t]? = (xs[t]?).map Value.string := fun t ht => by
              rw [hC0, Array.getElem?_append_left (by rw [Array.size_append, hzs]; simp; omega), Array.getElem?_append_left (by simp; omega), List.getElem?_toArray, List.getElem?_take, if_pos ht, List.getElem?_map]
            rw [← hC0] at hp0 ⊢
            clear hC0
            have hp1 := (hp0.drew.upd (Upd.cells (b := w.heap.size) (ys.map Value.string) i _ _ _ _ hp0.drew.new)).drew
            have hp2 := hp1.upd (Upd.cells (b := w.heap.size) ((xs.map Value.string).drop i) (i + ys.length) _ _ _ _ hp1.new)
            have hdl : ((xs.map Value.string).drop i).length = xs.length - i := by rw [List.length_drop, hcl]
            rw [← hlen] at m1
            rw [show xs.length + ys.length = (insL xs i ys).length from hlen.symm]
            refine ins_push hs hp2 (fun t ht => some_at ht ?_) m1 (by rw [setArr_size, setArr_size, hsz0]) m2
            rw [hlen] at ht m1
            rw [arr_at (by rw [setArr_size, hdl, hsz0]; omega), hdl, arr_at (by rw [hvl, hsz0]; omega), hvl, insL_at h1]
            by_cases g1 : t < i
            · rw [if_neg (by omega), if_neg (by omega), if_pos g1, hC1 t g1]
            · by_cases g2 : t < i + ys.length
              · rw [if_neg (by omega), if_pos (by omega), if_neg g1, if_pos g2, List.getElem?_map]
              · rw [if_pos (by omega), if_neg g1, if_neg g2, List.getElem?_drop, List.getElem?_map]
                congr 2
                omega
          · have hi : i = xs.length := by omega
            subst hi
            refine Calls.mono (Any2.slices_Insert_string_end_grow L (some ⟨b, 0, none⟩) xs.length cap vb 0 ys.length vc (xs.map Value.string) (ys.map Value.string) w h2 p3 hroom (by omega) hcl hvl (fun h => by cases h)
              (fun a ha j v hj => by cases ha; rw [add_mk]; exact hcs j v hj) hvs h1v) fun e' w' hew => goal e' w' ?_
            obtain ⟨rfl, rfl⟩ := hew
            exact ins_end hs (hmax cap).1 (hmax cap).2
      · have hi : i = 0 := Nat.le_zero.1 h1
        subst hi
        refine Calls.mono (Any2.slices_Insert_string_end_grow L a 0 0 vb 0 ys.length vc [] (ys.map Value.string) w h2 (Nat.le_refl _) (by omega) (by simp at h3; omega) rfl hvl (fun _ => rfl)
          (fun a ha j v hj => by simp at hj) hvs h1v) fun e' w' hew => goal e' w' ?_
        obtain ⟨rfl, rfl⟩ := hew
        exact ins_end (xs := []) hs (hmax 0).1 (hmax 0).2⟩
end Go.Proofs.YthkjjombaoffcaaGreatDoorPM
