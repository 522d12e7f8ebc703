/- Single operations: append, rows made whole. -/
import Derived.Test.YtcngjidojibleaaPmLem8
set_option linter.unusedVariables false
set_option linter.unusedSectionVars false
set_option linter.unusedSimpArgs false
namespace Go.Proofs.YtcngjidojibleaaPM
open Go Go.RowKit
variable [Foreign]

variable {P : Program} {base : Nat} {σ : Sig} {pb : Pb} {w : World}

theorem first_run {rn n len cap : Nat} {a : Option Addr} {ys : List Value} (hl : ys.length = n * rn) (hc : ∀ p v, ys[p]? = some v → ∃ b o, a = some ⟨b, o, none⟩ ∧ w.cell? ⟨b, o + p, none⟩ = some v) :
    (Builtin.firstCells rn n (.slice a len cap)).run P w = .ok ys.toArray w := by
  cases a with
  | some a =>
    show (loadCells a (n * rn)).run P w = _
    rw [← hl]
    refine run_loadCells_list _ _ _ (fun j v hj => ?_)
    obtain ⟨b, o, e, hq⟩ := hc j v hj
    cases e
    rw [add_mk]
    exact hq
  | none =>
    have : ys = [] := by
      cases ys with
      | nil => rfl
      | cons v ys => obtain ⟨b, o, e, _⟩ := hc 0 v rfl; cases e
    subst this
    rfl

theorem app_in {ts : Array TypeId} {t u e e' ty : TypeId} {i : TypeInfo} (h0 : ts[0]? = some t) (h1 : ts[1]? = some u) (ht : P.underlying t = some (.slice e)) (hu : P.underlying u = some (.slice e')) (hi : P.info? e = some i)
    {a : Option Addr} {n cap m c : Nat} {a1 : Option Addr} {ys : List Value} (hl : ys.length = m * i.size) (hc : ∀ p v, ys[p]? = some v → ∃ b o, a1 = some ⟨b, o, none⟩ ∧ w.cell? ⟨b, o + p, none⟩ = some v)
    (hle : n + m ≤ cap) {w' : World} (hs : ∀ x, a = some x → (storeCells (x.add (n * i.size)) ys).run P w = .ok () w') (hn : a = none → w' = w) :
    (Builtin.append_ ts ty #[.slice a n cap, .slice a1 m c]).run P w = .ok (.slice a (n + m) cap) w' := by
  have hf := first_run (P := P) (rn := i.size) (n := m) (len := m) (cap := c) hl hc
  cases a with
  | none =>
    have := hn rfl
    subst this
    simp [Builtin.append_, h0, h1, und_run ht, und_run hu, sizeOf, typeInfo, hi, Builtin.lenOf, hle, hf]
  | some x =>
    have hs := hs x rfl
    simp [Builtin.append_, h0, h1, und_run ht, und_run hu, sizeOf, typeInfo, hi, Builtin.lenOf, hle, hf, hs]

theorem app_grow {ts : Array TypeId} {t u e e' ty : TypeId} {i : TypeInfo} {z : Value} (h0 : ts[0]? = some t) (h1 : ts[1]? = some u) (ht : P.underlying t = some (.slice e)) (hu : P.underlying u = some (.slice e')) (hi : P.info? e = some i) (hz : i.zero = some z)
    {a : Option Addr} {n cap m c : Nat} {a1 : Option Addr} {xs ys : List Value} (hlx : xs.length = n * i.size) (hcx : ∀ p v, xs[p]? = some v → ∃ b o, a = some ⟨b, o, none⟩ ∧ w.cell? ⟨b, o + p, none⟩ = some v)
    (hl : ys.length = m * i.size) (hc : ∀ p v, ys[p]? = some v → ∃ b o, a1 = some ⟨b, o, none⟩ ∧ w.cell? ⟨b, o + p, none⟩ = some v)
    (hgt : cap < n + m) (hb : 0 < i.bytes) (hb' : i.bytes ≤ 1000) (hm : n + m < most) :
    (Builtin.append_ ts ty #[.slice a n cap, .slice a1 m c]).run P w =
      .ok (.slice (some ⟨w.heap.size, 0, none⟩) (n + m) (grownCap w (n + m) cap e)) (w.drew.alloc (.cells (xs.toArray ++ ys.toArray ++ Builtin.zeroCells z.cells (grownCap w (n + m) cap e - (n + m))) e)) := by
  have hn : ¬ (n + m ≤ cap) := by omega
  have hfx := first_run (P := P) (w := w.drew) (rn := i.size) (n := n) (len := n) (cap := cap) (a := a) hlx hcx
  have hf := first_run (P := P) (w := w.drew) (rn := i.size) (n := m) (len := m) (cap := c) (a := a1) hl hc
  have hbig : (n + m) * i.bytes ≤ 140737488355328 := by
    have : (n + m) * i.bytes ≤ 68719476736 * 1000 := Nat.mul_le_mul (by unfold most at hm; omega) hb'
    omega
  have hfit := growslice_fits (need := n + m) (old := cap) (bytes := i.bytes) hgt hbig
  have h48' : ¬ (281474976710656 < Builtin.nextslicecap (n + m) cap * i.bytes) := by omega
  have hb0 : i.bytes ≠ 0 := by omega
  simp [Builtin.append_, h0, h1, und_run ht, und_run hu, sizeOf, typeInfo, zeroValue, hi, hz, Builtin.lenOf, hn, hb0, h48', Question.forced, hf, hfx, newRow, grownCap]
  congr 2
  apply Array.ext'
  simp [List.append_assoc]

/-- The elements of a row of cells. -/
def Els (pb : Pb) (w : World) (r : Sh) (xs : List r.den) (l : List Value) : Prop := ∀ i (h : i < xs.length), ∃ vs, vs.length = r.n ∧ (∀ j, j < r.n → l[i * r.n + j]? = vs[j]?) ∧ ER pb w r xs[i] vs
theorem Els.append {r : Sh} {xs ys : List r.den} {l1 l2 l3 : List Value} (h1 : Els pb w r xs l1) (e1 : l1.length = xs.length * r.n) (h2 : Els pb w r ys l2) (e2 : l2.length = ys.length * r.n) : Els pb w r (xs ++ ys) (l1 ++ l2 ++ l3) := by
  intro i hi
  simp only [List.length_append] at hi
  have hsucc : ∀ k n : Nat, k < n → k * r.n + r.n ≤ n * r.n := by
    intro k n hk
    have : (k + 1) * r.n ≤ n * r.n := Nat.mul_le_mul_right _ hk
    rwa [Nat.succ_mul] at this
  by_cases hlt : i < xs.length
  · obtain ⟨vs, a1, a2, a3⟩ := h1 i hlt
    have hb := hsucc i xs.length hlt
    refine ⟨vs, a1, fun j hj => ?_, by rw [List.getElem_append_left hlt]; exact a3⟩
    rw [List.append_assoc, List.getElem?_append_left (by omega)]
    exact a2 j hj
  · obtain ⟨vs, a1, a2, a3⟩ := h2 (i - xs.length) (by omega)
    have hb := hsucc (i - xs.length) ys.length (by omega)
    refine ⟨vs, a1, fun j hj => ?_, by rw [List.getElem_append_right (by omega)]; exact a3⟩
    have hidx : i * r.n = xs.length * r.n + (i - xs.length) * r.n := by rw [← Nat.add_mul]; congr 1; omega
    rw [List.append_assoc, List.getElem?_append_right (by omega), List.getElem?_append_left (by omega), ← a2 j hj]
    congr 1
    omega
theorem Els.mono {pb' : Pb} {w' : World} {r : Sh} {xs : List r.den} {l : List Value} (h : Els pb w r xs l) (k : Keeps pb w pb' w') : Els pb' w' r xs l := by
  intro i hi
  obtain ⟨vs, a1, a2, a3⟩ := h i hi
  exact ⟨vs, a1, a2, a3.mono k⟩

theorem drew_push (w : World) (o : Obj) : Push w (w.drew.alloc o) o := by
  refine ⟨rfl, rfl, rfl, by simp, fun j hj => ?_, ?_⟩
  · exact pushW_old w.drew o j hj
  · exact pushW_new w.drew o

theorem grown_place {r : Sh} {xs ys : List r.den} {l1 l2 : List Value} {z : Value} {c : Nat} {e : TypeId} {g : Nat} (hz : (zeroCellsP z).length = r.n) (h1 : Els pb w r xs l1) (e1 : l1.length = xs.length * r.n) (h2 : Els pb w r ys l2) (e2 : l2.length = ys.length * r.n) :
    (∀ σ' pb', Ext σ pb w σ' pb' (w.drew.alloc (.cells (l1.toArray ++ l2.toArray ++ Builtin.zeroCells z.cells c) e)) →
      PlaceR σ' pb' (w.drew.alloc (.cells (l1.toArray ++ l2.toArray ++ Builtin.zeroCells z.cells c) e)) (.rows r (xs ++ ys) g) (some w.heap.size)) ∧
    BlockOf (w.drew.alloc (.cells (l1.toArray ++ l2.toArray ++ Builtin.zeroCells z.cells c) e)) w.heap.size ((xs.length + ys.length + c) * r.n) := by
  have hnew := (drew_push w (.cells (l1.toArray ++ l2.toArray ++ Builtin.zeroCells z.cells c) e)).new
  have hzc : z.cells.size = r.n := by
    rw [← hz]
    cases z <;> simp [zeroCellsP, Value.cells]
  have hsize : (l1.toArray ++ l2.toArray ++ Builtin.zeroCells z.cells c).size = (xs.length + ys.length + c) * r.n := by
    simp [Builtin.zeroCells, hzc, e1, e2, Nat.add_mul]
  refine ⟨fun σ' pb' he => ⟨_, e, (0, 0), hnew, fun o _ h => by omega, ?_, ?_⟩, ⟨_, _, _, hnew, by rw [hsize]; exact Nat.le_refl _⟩⟩
  · rw [hsize, List.length_append]
    exact Nat.mul_le_mul_right _ (by omega)
  · have := (h1.append e1 h2 e2 (l3 := (Builtin.zeroCells z.cells c).toList)).mono he.keeps
    intro i hi
    obtain ⟨vs, a1, a2, a3⟩ := this i hi
    refine ⟨vs, a1, fun j hj => ?_, a3⟩
    rw [← a2 j hj, ← Array.getElem?_toList]
    congr 1
    simp

theorem cap_ge (w : World) (need old : Nat) (e : TypeId) : need ≤ grownCap w need old e := by unfold grownCap; exact Nat.le_add_right _ _

theorem append_ok {t u ty : TypeId} {ts : Array TypeId} (h0 : ts[0]? = some t) (hts : ts[1]? = some u) {p q : PV} {y z : Value} {tr : Tri} (h : oAppend P t u p q σ = some tr) (h1 : tr.ok = true) (hs : St base σ pb w) (hvp : VR σ pb w p y) (hvq : VR σ pb w q z) :
    SemOk P base σ pb w (Builtin.append_ ts ty #[y, z]) tr := by
  unfold oAppend at h
  split at h
  · rename_i e e' ht hu
    split at h
    · rename_i r ys ie zv hrow hi hzv
      split at h
      · rename_i hc
        obtain ⟨hel, hb1, hb2, hzc⟩ := hc
        obtain ⟨esz, hrn, _⟩ := elOk_spec hel
        have hisz : ie.size = r.n := by rw [← esz]; unfold szOf; rw [hi]
        have hiz : ie.zero = some zv := by unfold zeroOf at hzv; rw [hi] at hzv; exact hzv
        obtain ⟨a1, c1, news, rfl, hl1, hc1, hel1⟩ := rowOf_read hrow hs hvq
        have hl1' : news.length = ys.length * ie.size := by rw [hisz]; exact hl1
        -- a new row, out of what was read
        have grow : ∀ {a0 : Option Addr} {xs : List r.den} {cap : Nat} {olds : List Value}, ReadR pb w r xs a0 olds → cap < xs.length + ys.length → xs.length + ys.length < most →
            (Builtin.append_ ts ty #[.slice a0 xs.length cap, .slice a1 ys.length c1]).run P w =
              .ok (.slice (some ⟨w.heap.size, 0, none⟩) (xs.length + ys.length) (grownCap w (xs.length + ys.length) cap e)) (w.drew.alloc (.cells (olds.toArray ++ news.toArray ++ Builtin.zeroCells zv.cells (grownCap w (xs.length + ys.length) cap e - (xs.length + ys.length))) e)) := by
          intro a0 xs cap olds hr hgt hm
          exact app_grow h0 hts ht hu hi hiz (by rw [hisz]; exact hr.1) hr.2.1 hl1' hc1 hgt hb1 hb2 hm
        have fresh : ∀ {a0 : Option Addr} {xs : List r.den} {cap : Nat} {olds : List Value}, ReadR pb w r xs a0 olds → cap < xs.length + ys.length → xs.length + ys.length < most →
            SemOk P base σ pb w (Builtin.append_ ts ty #[.slice a0 xs.length cap, .slice a1 ys.length c1]) ⟨true, .own σ.length 0, σ ++ [.rows r (xs ++ ys) 0]⟩ := by
          intro a0 xs cap olds hr hgt hm
          obtain ⟨hpl, hblk⟩ := grown_place (σ := σ) (g := 0) (c := grownCap w (xs.length + ys.length) cap e - (xs.length + ys.length)) (e := e) hzc hr.2.2 hr.1 hel1 hl1
          obtain ⟨he, hst⟩ := push_place' (drew_push w _) hs (.rows r (xs ++ ys) 0) hpl
          refine ⟨_, _, _, grow hr hgt hm, hst, he, by simp, fun r' xs' g' hk => ?_⟩
          rw [List.getElem?_append_right (Nat.le_refl _)] at hk
          simp at hk
          obtain ⟨rfl, hk, rfl⟩ := hk
          obtain rfl := eq_of_heq hk
          refine ⟨Nat.le_refl _, fun _ => .inl ⟨w.heap.size, grownCap w (xs.length + ys.length) cap e, ?_, by simp, by simp; exact cap_ge _ _ _ _, ?_⟩⟩
          · rw [List.getElem?_append_right (by rw [hs.len]; exact Nat.le_refl _), hs.len]
            simp
          · have := cap_ge w (xs.length + ys.length) cap e
            rw [show xs.length + ys.length + (grownCap w (xs.length + ys.length) cap e - (xs.length + ys.length)) = grownCap w (xs.length + ys.length) cap e by omega] at hblk
            exact hblk
        -- onto nothing
        have onto : ∀ {a0 : Option Addr}, y = .slice a0 0 0 → ys.length < most → SemOk P base σ pb w (Builtin.append_ ts ty #[y, .slice a1 ys.length c1]) ⟨true, .own σ.length 0, σ ++ [.rows r ys 0]⟩ := by
          intro a0 hy hm
          subst hy
          by_cases h0' : ys.length = 0
          · have hys : ys = [] := List.eq_nil_of_length_eq_zero h0'
            have hnews : news = [] := by
              rw [h0', Nat.zero_mul] at hl1
              exact List.eq_nil_of_length_eq_zero hl1
            have hl := hs.len
            have he : Ext σ pb w (σ ++ [.rows r ys 0]) (pb ++ [none]) w := by
              refine ⟨rfl, rfl, rfl, Nat.le_refl _, ⟨fun b hb => ⟨⟨hb.1, fun hm => ?_, hb.2.2⟩, rfl⟩, fun _ _ => rfl⟩, fun b c e f h => ⟨c, f, h, rfl⟩, PlExt.snoc σ pb hl _ _⟩
              rcases List.mem_append.mp hm with h | h
              · exact hb.2.1 h
              · simp at h
            have hlt : ∀ (i b : Nat), (pb ++ [none])[i]? = some (some b) → pb[i]? = some (some b) := by
              intro i b h
              by_cases q : i < pb.length
              · rwa [List.getElem?_append_left q] at h
              · rw [List.getElem?_append_right (by omega)] at h
                have : i - pb.length = 0 := by have := (List.getElem?_eq_some_iff.mp h).1; simp at this; omega
                rw [this] at h
                simp at h
            refine ⟨pb ++ [none], w, .slice a0 0 0, ?_, ⟨hs.bs, by simp [hl], fun i j b hi hj => hs.inj i j b (hlt _ _ hi) (hlt _ _ hj), fun i b hi => hs.bnd i b (hlt _ _ hi), fun b hb => ⟨(hs.frn b hb).1, fun hm => ?_⟩, fun k p q hk hq => ?_⟩, he, by simp, fun r' xs' g' hk => ?_⟩
            · have := app_in (P := P) (w := w) (w' := w) (ty := ty) (a := a0) (n := 0) (cap := 0) (c := c1) h0 hts ht hu hi hl1' hc1 (by omega) (fun x _ => by rw [hnews]; rfl) (fun _ => rfl)
              rw [h0'] at this ⊢
              exact this
            · rcases List.mem_append.mp hm with h | h
              · exact (hs.frn b hb).2 h
              · simp at h
            · by_cases q1 : k < σ.length
              · rw [List.getElem?_append_left q1] at hk
                rw [List.getElem?_append_left (by omega)] at hq
                exact PlaceR.ext he (fun _ _ => rfl) (hs.pl k p q hk hq)
              · rw [List.getElem?_append_right (by omega)] at hk
                rw [List.getElem?_append_right (by omega)] at hq
                have : k - σ.length = 0 := by have := (List.getElem?_eq_some_iff.mp hk).1; simp at this; omega
                rw [this] at hk
                rw [show k - pb.length = 0 by omega] at hq
                simp at hk hq
                subst hk
                subst hq
                exact hys
            · rw [List.getElem?_append_right (Nat.le_refl _)] at hk
              simp at hk
              obtain ⟨rfl, hk, rfl⟩ := hk
              obtain rfl := eq_of_heq hk
              refine ⟨Nat.le_refl _, fun _ => .inr ⟨?_, hys, a0, rfl⟩⟩
              rw [List.getElem?_append_right (by omega), hl]
              simp
          · obtain ⟨pb', w', z', a1, a2, a3, a4⟩ := fresh (a0 := a0) (xs := []) (cap := 0) (olds := []) ⟨by simp, fun p v hp => by simp at hp, fun i hi => by simp at hi⟩ (by simp; omega) (by simpa using hm)
            exact ⟨pb', w', z', a1, a2, a3, a4⟩
        cases p with
        | own k g =>
          simp only at h
          split at h
          · rename_i r' xs g' hk
            split at h
            · rename_i er
              subst er
              split at h
              · rename_i hg
                subst hg
                cases h
                have hm := of_decide_eq_true h1
                have hlt : k < σ.length := (List.getElem?_eq_some_iff.mp hk).1
                obtain ⟨_, hv⟩ := hvp
                have hread := rowOf_read (σ := σ) (pb := pb) (w := w) (p := .own k g') (r := r') (xs := xs) (y := y) (by simp [rowOf, hk]) hs ⟨hlt, hv⟩
                obtain ⟨a0, cap0, olds, rfl, hr⟩ := hread
                rcases (hv _ _ _ hk).2 rfl with ⟨b, cap, hb, hy, hcap, hblk⟩ | ⟨hpb, hx, a, hy⟩
                · injection hy with hy1 hy2 hy3
                  subst hy1
                  subst hy3
                  by_cases hle : xs.length + ys.length ≤ cap0
                  · obtain ⟨cc, ee, ff, b1, b2, b3, b4⟩ := St.rows (hs := hs) hk hb
                    obtain ⟨cc', ee', ff', d1, d2⟩ := hblk
                    rw [b1] at d1
                    cases d1
                    have hroom : xs.length * r'.n + news.length ≤ cc.size := by
                      rw [hl1, ← Nat.add_mul]
                      exact Nat.le_trans (Nat.mul_le_mul_right _ hle) d2
                    have hone : news.all oneB = true := by
                      rw [List.all_eq_true]
                      intro v hv
                      obtain ⟨p, hp, rfl⟩ := List.getElem_of_mem hv
                      have hpos : 0 < r'.n := by omega
                      rw [hl1] at hp
                      have hi' : p / r'.n < ys.length := by rw [Nat.div_lt_iff_lt_mul hpos]; exact hp
                      obtain ⟨vs, q1, q2, q3⟩ := hel1 _ hi'
                      have := q2 (p % r'.n) (Nat.mod_lt _ hpos)
                      rw [Nat.div_add_mod' p r'.n, List.getElem?_eq_getElem (by rw [hl1]; exact hp), List.getElem?_eq_getElem (by rw [q1]; exact Nat.mod_lt _ hpos)] at this
                      injection this with this
                      rw [this]
                      exact ER.one q3 _ (List.getElem_mem _)
                    obtain ⟨w', hrun, hupd⟩ := storeCells_run (P := P) b (xs.length * r'.n) news 0 w cc ee ff b1 b2 (by omega) hone
                    have hal : Alike (.rows r' xs g') (.rows r' (xs ++ ys) (g' + 1)) := ⟨rfl, by omega, fun e => by omega⟩
                    have he := hupd.ext hb hk hal hs.nf
                    have hst := hupd.st hs hb hk hal (by
                      obtain ⟨e3, f3, c1', c2'⟩ := hupd.at_
                      rw [b1] at c1'
                      cases c1'
                      refine ⟨_, _, _, c2', by rw [hupd.sz]; exact b2, by rw [hupd.sz, List.length_append, Nat.add_mul, ← hl1]; exact hroom, ?_⟩
                      have hels : Els pb w r' (xs ++ ys) (cc.toList.take (xs.length * r'.n) ++ news ++ cc.toList.drop (xs.length * r'.n + news.length)) := by
                        refine Els.append (fun i hi => ?_) (by simp; omega) hel1 hl1
                        obtain ⟨vs, q1, q2, q3⟩ := b4 i hi
                        refine ⟨vs, q1, fun j hj => ?_, q3⟩
                        have : (i + 1) * r'.n ≤ xs.length * r'.n := Nat.mul_le_mul_right _ hi
                        rw [Nat.succ_mul] at this
                        rw [List.getElem?_take, if_pos (by omega), Array.getElem?_toList]
                        exact q2 j hj
                      have hels := hels.mono he.keeps
                      intro i hi
                      obtain ⟨vs, q1, q2, q3⟩ := hels i hi
                      refine ⟨vs, q1, fun j hj => ?_, q3⟩
                      rw [← q2 j hj, ← Array.getElem?_toList, setL_arr, Nat.add_zero, setL_get _ _ _ _ (by simp; omega)]
                      have hidx : i * r'.n + j < (xs ++ ys).length * r'.n := by
                        have : (i + 1) * r'.n ≤ (xs ++ ys).length * r'.n := Nat.mul_le_mul_right _ hi
                        rw [Nat.succ_mul] at this
                        omega
                      rw [List.length_append, Nat.add_mul, ← hl1] at hidx
                      rw [List.append_assoc]
                      by_cases hp : xs.length * r'.n ≤ i * r'.n + j
                      · rw [if_pos ⟨hp, hidx⟩, List.getElem?_append_right (by simp; omega), List.getElem?_append_left (by simp; omega)]
                        congr 1
                        simp
                        omega
                      · rw [if_neg (by omega), List.getElem?_append_left (by simp; omega), List.getElem?_take, if_pos (by omega)])
                    refine ⟨pb, w', .slice (some ⟨b, 0, none⟩) (xs.length + ys.length) cap0, ?_, hst, he, by simpa using hlt, fun r'' xs' g'' hk' => ?_⟩
                    · refine app_in h0 hts ht hu hi hl1' hc1 hle (fun x hx => ?_) (fun e => (by cases e))
                      cases hx
                      rw [add_mk, hisz]
                      simpa using hrun
                    · rw [show (σ.set k (.rows r' (xs ++ ys) (g' + 1)))[k]? = some (.rows r' (xs ++ ys) (g' + 1)) by simp [hlt]] at hk'
                      cases hk'
                      exact ⟨Nat.le_refl _, fun _ => .inl ⟨b, cap0, hb, by simp, by simpa using hle, BlockOf.ext he ⟨_, _, _, b1, d2⟩⟩⟩
                  · obtain ⟨hpl, hblk'⟩ := grown_place (σ := σ) (g := g' + 1) (c := grownCap w (xs.length + ys.length) cap0 e - (xs.length + ys.length)) (e := e) hzc hr.2.2 hr.1 hel1 hl1
                    obtain ⟨he, hst⟩ := push_replace (drew_push w _) hs hk (by omega) hpl
                    refine ⟨_, _, _, grow hr (by omega) hm, hst, he, by simpa using hlt, fun r'' xs' g'' hk' => ?_⟩
                    rw [show (σ.set k (.rows r' (xs ++ ys) (g' + 1)))[k]? = some (.rows r' (xs ++ ys) (g' + 1)) by simp [hlt]] at hk'
                    cases hk'
                    refine ⟨Nat.le_refl _, fun _ => .inl ⟨w.heap.size, grownCap w (xs.length + ys.length) cap0 e, by simp [hs.len, hlt], by simp, by simp; exact cap_ge _ _ _ _, ?_⟩⟩
                    have := cap_ge w (xs.length + ys.length) cap0 e
                    rw [show xs.length + ys.length + (grownCap w (xs.length + ys.length) cap0 e - (xs.length + ys.length)) = grownCap w (xs.length + ys.length) cap0 e by omega] at hblk'
                    exact hblk'
                · subst hx
                  injection hy with hy1 hy2 hy3
                  subst hy1
                  subst hy3
                  by_cases h0' : ys.length = 0
                  · have hys : ys = [] := List.eq_nil_of_length_eq_zero h0'
                    subst hys
                    have hal : Alike (.rows r' [] g') (.rows r' ([] ++ []) (g' + 1)) := ⟨rfl, by omega, fun e => by omega⟩
                    have he : Ext σ pb w (σ.set k (.rows r' ([] ++ []) (g' + 1))) pb w := ⟨rfl, rfl, rfl, Nat.le_refl _, Keeps.refl _ _, fun b c e f h => ⟨c, f, h, rfl⟩, PlExt.set hk hal⟩
                    have hnews : news = [] := by
                      simp at hl1
                      exact hl1
                    subst hnews
                    refine ⟨pb, w, .slice a0 0 0, ?_, ⟨hs.bs, by simpa using hs.len, hs.inj, hs.bnd, hs.frn, fun i q q' hi' hq' => ?_⟩, he, by simpa using hlt, fun r'' xs' g'' hk' => ?_⟩
                    · exact app_in h0 hts ht hu hi hl1' hc1 (Nat.le_refl _) (fun x _ => rfl) (fun _ => rfl)
                    · by_cases eik : i = k
                      · subst eik
                        rw [show (σ.set i (.rows r' ([] ++ []) (g' + 1)))[i]? = some (.rows r' ([] ++ []) (g' + 1)) by simp [hlt]] at hi'
                        cases hi'
                        rw [hpb] at hq'
                        cases hq'
                        rfl
                      · rw [show (σ.set k (.rows r' ([] ++ []) (g' + 1)))[i]? = σ[i]? by simp [List.getElem?_set, Ne.symm eik]] at hi'
                        exact PlaceR.ext he (fun _ _ => rfl) (hs.pl i q q' hi' hq')
                    · rw [show (σ.set k (.rows r' ([] ++ []) (g' + 1)))[k]? = some (.rows r' ([] ++ []) (g' + 1)) by simp [hlt]] at hk'
                      cases hk'
                      exact ⟨Nat.le_refl _, fun _ => .inr ⟨hpb, rfl, a0, rfl⟩⟩
                  · obtain ⟨hpl, hblk'⟩ := grown_place (σ := σ) (g := g' + 1) (c := grownCap w (0 + ys.length) 0 e - (0 + ys.length)) (e := e) hzc hr.2.2 hr.1 hel1 hl1
                    obtain ⟨he, hst⟩ := push_replace (drew_push w _) hs hk (by omega) hpl
                    have hg := grow hr (cap := 0) (by simp; omega) (by simpa using hm)
                    simp only [List.length_nil] at hg
                    refine ⟨_, _, _, hg, hst, he, by simpa using hlt, fun r'' xs' g'' hk' => ?_⟩
                    rw [show (σ.set k (.rows r' ([] ++ ys) (g' + 1)))[k]? = some (.rows r' ([] ++ ys) (g' + 1)) by simp [hlt]] at hk'
                    cases hk'
                    refine ⟨Nat.le_refl _, fun _ => .inl ⟨w.heap.size, grownCap w (0 + ys.length) 0 e, by simp [hs.len, hlt], by simp, by have := cap_ge w (0 + ys.length) 0 e; simpa using this, ?_⟩⟩
                    have := cap_ge w (0 + ys.length) 0 e
                    simp only [List.length_nil] at hblk'
                    rw [show 0 + ys.length + (grownCap w (0 + ys.length) 0 e - (0 + ys.length)) = grownCap w (0 + ys.length) 0 e by omega] at hblk'
                    exact hblk'
              · cases h
            · cases h
          · cases h
        | v x =>
          have e : x = .slice none 0 0 ∧ tr = ⟨decide (ys.length < most), .own σ.length 0, σ ++ [.rows r ys 0]⟩ := by
            cases x with
            | slice a n c => cases a with
              | some => cases h
              | none => cases n with
                | succ => cases h
                | zero => cases c with
                  | succ => cases h
                  | zero => cases h; exact ⟨rfl, rfl⟩
            | _ => cases h
          obtain ⟨rfl, rfl⟩ := e
          exact onto hvp (of_decide_eq_true h1)
        | rows full r' xs =>
          cases full with
          | false => cases h
          | true =>
            cases xs with
            | nil =>
              simp only at h
              split at h
              · rename_i er
                subst er
                cases h
                obtain ⟨a, cap, e1, e2, e3, _⟩ := hvp
                have e3 := e3 rfl
                simp only [List.length_nil] at e1 e3
                subst e3
                exact onto e1 (of_decide_eq_true h1)
              · cases h
            | cons x0 xs =>
            simp only at h
            split at h
            · rename_i er
              subst er
              cases h
              simp only [Bool.and_eq_true, decide_eq_true_eq] at h1
              obtain ⟨a0, cap0, olds, hy, hr⟩ := rowOf_read (σ := σ) (pb := pb) (w := w) (p := .rows true r' (x0 :: xs)) (r := r') (xs := x0 :: xs) (y := y) rfl hs hvp
              obtain ⟨a, cap, e1, e2, e3, _⟩ := hvp
              subst hy
              injection e1 with _ _ e4
              have e3 := e3 rfl
              subst e4
              obtain ⟨pb', w', z', a1, a2, a3, a4⟩ := fresh hr (cap := cap0) (by omega) h1.2
              exact ⟨pb', w', z', a1, a2, a3, a4⟩
            · cases h
        | _ => cases h
      · cases h
    · cases h
  · cases h

end Go.Proofs.YtcngjidojibleaaPM
