/- A callee's own sight, put into the caller's. -/
import Derived.Test.YtcngjidojibleaaPmFrame
import Derived.Test.YtcngjidojibleaaPmWalk
set_option linter.unusedVariables false
set_option linter.unusedSectionVars false
set_option linter.unusedSimpArgs false
namespace Go.Proofs.YtcngjidojibleaaPM
open Go Go.RowKit

theorem Slots.pack {φ1 φ2 : Foreign} {n : Nat} {σ1 : Sig} {pb1 : Pb} {m1 : Nat → Nat × Nat} {σ2 : Sig} {pb2 : Pb} {m2 : Nat → Nat × Nat} {w : World} (s : Slots φ1 φ2 n σ1 pb1 m1 σ2 pb2 m2 w)
    {l : List AK} (hc : okAs n l = true) {x : adens l} {y : Value} (h : @VR φ1 σ1 pb1 w (packRes (Go.Proofs.YtcngjidojibleaaPM.encAs m1 l x)) y) : @VR φ2 σ2 pb2 w (packRes (Go.Proofs.YtcngjidojibleaaPM.encAs m2 l x)) y := by
  match l, hc, x, h with
  | [], hc, x, h => obtain ⟨ys, e, h⟩ := h; exact ⟨ys, e, s.encAs (l := []) hc (x := x) h⟩
  | [a], hc, x, h =>
    simp only [okAs, Bool.and_eq_true] at hc
    exact @AR.vr φ2 _ _ _ _ _ (s.encA hc.1 (@VR.ar φ1 _ _ _ _ _ (fun vs => encA_ntup vs) h))
  | a :: b :: l, hc, x, h => obtain ⟨ys, e, h⟩ := h; exact ⟨ys, e, s.encAs (l := a :: b :: l) hc (x := x) h⟩

theorem atI_get {ι : List (Nat × Nat)} {j : Nat} {x : Nat × Nat} (h : ι[j]? = some x) : atI ι j = x := by
  unfold atI
  rw [nth_get, h]

theorem frame (φ : Foreign) {P : Program} {g : FuncId} {ι : List (Nat × Nat)} {σ : Sig} {ak : List AK} {pk : List PK} {rk : List AK} {qk : List PK} {a : adens ak} {s : pdens pk} {r : adens rk} {q : pdens qk} {args : List PV}
    (hn : ι.length = pk.length) (hap : ApartI σ.length ι) (hda : decAs (atI ι) ak args = some a) (hdp : decPs (atI ι) σ 0 pk = some s)
    (oka : okAs pk.length ak = true) (okp : okPs pk.length pk = true) (okr : okAs qk.length rk = true) (okq : okPs qk.length qk = true)
    (hcal : ∀ φ : Foreign, @FnOkW φ P g (encAs locI ak a) (encPs locI 0 pk s) (packRes (encAs (resI qk) rk r)) (encPs (resI qk) 0 qk q)) :
    @FnOk φ P g args σ (packRes (encAs (outI ι pk.length σ.length qk) rk r)) (putAll σ ι (encPs (outI ι pk.length σ.length qk) 0 qk q)) := by
  intro base pb w vals hs hv
  have hl := hs.len
  have hslt : ∀ b : Nat, some b ∈ pb → b < w.heap.size := fun b hb => hs.lt hb
  obtain ⟨hsbs, hslen, hsinj, hsbnd, hsfrn, hspl⟩ := id hs
  obtain ⟨pbl, hpd⟩ : ∃ p : Pb, p = ι.map fun x => (pb[x.1]?).getD none := ⟨_, rfl⟩
  have hpbl : ∀ (j : Nat) (x : Nat × Nat), ι[j]? = some x → pbl[j]? = pb[x.1]? := by
    intro j x hx
    have hlt := hap.lt j x hx
    have : pb[x.1]? = some pb[x.1] := List.getElem?_eq_getElem (by omega)
    simp only [hpd, List.getElem?_map, hx, Option.map_some, this, Option.getD_some]
  have hlen : pbl.length = pk.length := by simp [hpd, hn]
  have hι : ∀ j, j < pk.length → ∃ x, ι[j]? = some x := fun j hj => ⟨ι[j]'(by omega), List.getElem?_eq_getElem (by omega)⟩
  have hmem : ∀ b : Nat, some b ∈ pbl → some b ∈ pb := by
    intro b hb
    obtain ⟨j, hj, e⟩ := List.getElem_of_mem hb
    obtain ⟨x, hx⟩ := hι j (by omega)
    have := hpbl j x hx
    rw [List.getElem?_eq_getElem hj, e] at this
    exact List.mem_of_getElem? this.symm
  obtain ⟨φl, hφ⟩ : ∃ φl : Foreign, ∀ b : Nat, φl.X b ↔ (φ.X b ∨ (some b ∈ pb ∧ some b ∉ pbl)) := ⟨⟨fun b => φ.X b ∨ (some b ∈ pb ∧ some b ∉ pbl)⟩, fun _ => Iff.rfl⟩
  have hsl : (encPs locI 0 pk s).length = pk.length := encPs_len
  have hget := fun j k (hk : pk[j]? = some k) => decPs_get hdp j k hk
  -- the callee's sight
  have S1 : Slots φ φl pk.length σ pb (atI ι) (encPs locI 0 pk s) pbl locI w := by
    refine ⟨fun b hb => ⟨hb.1, fun h => hb.2.1 (hmem b h), fun h => ((hφ b).1 h).elim hb.2.2 fun h => hb.2.1 h.1⟩, fun j hj => by rw [hsl]; exact hj, fun j hj cs2 h => ?_, fun j hj r xs g h => ?_⟩
    · obtain ⟨x, hx⟩ := hι j hj
      have hk : pk[j]? = some pk[j] := List.getElem?_eq_getElem hj
      obtain ⟨q, z, h1, h2, h3⟩ := hget j _ hk
      have h : (encPs locI 0 pk s)[j]? = some _ := h
      rw [h3] at h
      refine ⟨?_, by rw [atI_get hx]; exact hpbl j x hx⟩
      simp only [Nat.zero_add] at h1
      rw [h1]
      generalize pk[j] = k at z h h2
      cases k with
      | cells l =>
        simp only [decP] at h2
        split at h2
        · exact ⟨_, rfl⟩
        · cases h2
      | rows r _ => cases h
      | gone => cases h
    · obtain ⟨x, hx⟩ := hι j hj
      have hk : pk[j]? = some pk[j] := List.getElem?_eq_getElem hj
      obtain ⟨q, z, h1, h2, h3⟩ := hget j _ hk
      have h : (encPs locI 0 pk s)[j]? = some _ := h
      rw [h3] at h
      simp only [Nat.zero_add] at h1 h2
      refine ⟨?_, ?_, by rw [atI_get hx]; exact hpbl j x hx⟩
      · generalize pk[j] = k at z h h2
        cases k with
        | rows r' _ => cases h; rfl
        | cells l => cases h
        | gone => cases h
      · rw [h1]
        generalize pk[j] = k at z h h2
        cases k with
        | rows r' kp =>
          cases h
          simp only [decP] at h2
          split at h2
          · obtain ⟨e1, e2⟩ := bif_some h2
            have e1 := bbeq (Bool.and_eq_true_iff.1 e1).1
            split at e2
            · rename_i e
              subst e
              cases e2
              rw [e1]
            · cases e2
          · cases h2
        | cells l => cases h
        | gone => cases h
  have Stl : @St φl base (encPs locI 0 pk s) pbl w := by
    refine ⟨hsbs, by rw [hsl, hlen], fun i j b hi hj => ?_, fun i b hi => ?_, fun b hb => ?_, fun j p o hj ho => ?_⟩
    · obtain ⟨x, hx⟩ := hι i (by rw [← hlen]; exact (List.getElem?_eq_some_iff.1 hi).1)
      obtain ⟨y, hy⟩ := hι j (by rw [← hlen]; exact (List.getElem?_eq_some_iff.1 hj).1)
      rw [hpbl i x hx] at hi
      rw [hpbl j y hy] at hj
      exact hap.ne i j x y hx hy (hsinj _ _ b hi hj)
    · obtain ⟨x, hx⟩ := hι i (by rw [← hlen]; exact (List.getElem?_eq_some_iff.1 hi).1)
      rw [hpbl i x hx] at hi
      exact hsbnd _ b hi
    · rcases (hφ b).1 hb with hb | hb
      · exact ⟨(hsfrn b hb).1, fun h => (hsfrn b hb).2 (hmem b h)⟩
      · exact ⟨hslt b hb.1, hb.2⟩
    · have hjl : j < pk.length := by rw [← hlen]; exact (List.getElem?_eq_some_iff.1 ho).1
      obtain ⟨x, hx⟩ := hι j hjl
      have hk : pk[j]? = some pk[j] := List.getElem?_eq_getElem hjl
      obtain ⟨q, z, h1, h2, h3⟩ := hget j _ hk
      rw [h3] at hj
      cases hj
      rw [hpbl j x hx] at ho
      simp only [Nat.zero_add] at h1 h2
      have hp := hspl _ q o h1 (by rw [atI_get hx]; exact ho)
      exact S1.encP (okPs_get okp j _ hk) (@decP_ok φ _ _ _ _ _ _ _ _ _ h2 hp)
  have hvl : @VRs φl (encPs locI 0 pk s) pbl w (encAs locI ak a) vals := @ARs.vrs φl _ _ _ _ _ (S1.encAs oka (@decAs_vr φ _ _ _ _ _ _ _ _ hda hv))
  refine Calls.mono (@hcal φl base pbl w vals Stl hvl) fun e w' he => ?_
  obtain ⟨pb'l, y, rfl, St', ew, hy⟩ := he
  have ewcel := @ExtN.cel φl _ _ _ _ _ _ _ ew
  have ewrws := @ExtN.rws φl _ _ _ _ _ _ _ ew
  have ewsty := @ExtN.sty φl _ _ _ _ _ _ _ ew
  have hq : (encPs (resI qk) 0 qk q).length = qk.length := encPs_len
  have hq' : (encPs (outI ι pk.length σ.length qk) 0 qk q).length = qk.length := encPs_len
  have hnn : pk.length ≤ qk.length := by have := ew.len; rw [hsl, hq] at this; exact this
  have hpl : pb'l.length = qk.length := by rw [St'.len, hq]
  obtain ⟨a1, a2, a3, a4⟩ := putAll_spec ι σ (encPs (outI ι pk.length σ.length qk) 0 qk q) hap (by rw [hq', hn]; exact hnn)
  obtain ⟨b1, b2, b3, b4⟩ := putAll_spec ι pb pb'l (by rw [hl]; exact hap) (by rw [hpl, hn]; exact hnn)
  generalize hσ' : putAll σ ι (encPs (outI ι pk.length σ.length qk) 0 qk q) = σ' at a1 a2 a3 a4
  generalize hpb' : putAll pb ι pb'l = pb' at b1 b2 b3 b4
  have hslot : ∀ j, j < qk.length → (outI ι pk.length σ.length qk j).1 < σ'.length ∧ σ'[(outI ι pk.length σ.length qk j).1]? = (encPs (outI ι pk.length σ.length qk) 0 qk q)[j]? ∧ pb'[(outI ι pk.length σ.length qk j).1]? = pb'l[j]? := by
    intro j hj
    unfold outI
    cases hb : Nat.blt j pk.length with
    | true =>
      have hjn : j < pk.length := by simpa [Nat.blt_eq] using hb
      obtain ⟨x, hx⟩ := hι j hjn
      simp only [cond_true, atI_get hx]
      have := hap.lt j x hx
      exact ⟨by omega, a2 j x hx, b2 j x hx⟩
    | false =>
      have hjn : ¬ j < pk.length := fun h => by rw [show Nat.blt j pk.length = true by simpa [Nat.blt_eq] using h] at hb; cases hb
      simp only [cond_false]
      refine ⟨by omega, ?_, ?_⟩
      · have := a4 (j - pk.length)
        rw [show ι.length + (j - pk.length) = j by omega] at this
        exact this
      · have := b4 (j - pk.length)
        rw [show ι.length + (j - pk.length) = j by omega, hl] at this
        exact this
  have hclass : ∀ k, k < σ'.length → (∃ j, j < qk.length ∧ k = (outI ι pk.length σ.length qk j).1) ∨ (k < σ.length ∧ (∀ (j : Nat) (x : Nat × Nat), ι[j]? = some x → x.1 ≠ k) ∧ σ'[k]? = σ[k]? ∧ pb'[k]? = pb[k]?) := by
    intro k hk
    by_cases hin : ∃ (j : Nat) (x : Nat × Nat), ι[j]? = some x ∧ x.1 = k
    · obtain ⟨j, x, hx, e⟩ := hin
      have hj : j < pk.length := by rw [← hn]; exact (List.getElem?_eq_some_iff.1 hx).1
      refine .inl ⟨j, by omega, ?_⟩
      unfold outI
      rw [show Nat.blt j pk.length = true by simpa [Nat.blt_eq] using hj, atI_get hx]
      exact e.symm
    · have hno : ∀ (j : Nat) (x : Nat × Nat), ι[j]? = some x → x.1 ≠ k := fun j x hx e => hin ⟨j, x, hx, e⟩
      by_cases hlt : k < σ.length
      · exact .inr ⟨hlt, hno, a3 k hlt hno, b3 k (by omega) hno⟩
      · refine .inl ⟨pk.length + (k - σ.length), by omega, ?_⟩
        unfold outI
        rw [show Nat.blt (pk.length + (k - σ.length)) pk.length = false from by
          cases h : Nat.blt (pk.length + (k - σ.length)) pk.length with
          | false => rfl
          | true => have : pk.length + (k - σ.length) < pk.length := by simpa [Nat.blt_eq] using h
                    omega]
        simp only [cond_false]
        omega
  have hplen : pb'.length = σ'.length := by rw [a1, b1, hq', hpl, hl]
  -- other blocks are foreign to the callee
  have hoth : ∀ (k b : Nat), (∀ (j : Nat) (x : Nat × Nat), ι[j]? = some x → x.1 ≠ k) → pb[k]? = some (some b) → @Foreign.X φl b := by
    intro k b hk hb
    refine (hφ b).2 (.inr ⟨List.mem_of_getElem? hb, fun h => ?_⟩)
    obtain ⟨j, hj, e⟩ := List.getElem_of_mem h
    obtain ⟨x, hx⟩ := hι j (by omega)
    have := hpbl j x hx
    rw [List.getElem?_eq_getElem hj, e] at this
    exact hk j x hx (hsinj _ _ b this.symm hb)
  have hpmem : ∀ b : Nat, some b ∈ pb' → some b ∈ pb'l ∨ @Foreign.X φl b ∧ some b ∈ pb := by
    intro b hb
    obtain ⟨k, hk, e⟩ := List.getElem_of_mem hb
    have hg : pb'[k]? = some (some b) := by rw [List.getElem?_eq_getElem hk, e]
    rcases hclass k (by omega) with ⟨j, hj, rfl⟩ | ⟨h1, h2, h3, h4⟩
    · rw [(hslot j hj).2.2] at hg
      exact .inl (List.mem_of_getElem? hg)
    · rw [h4] at hg
      exact .inr ⟨hoth k b h2 hg, List.mem_of_getElem? hg⟩
  have him : ∀ b, @Im φl pb'l w' b → @Im φ pb' w' b := by
    intro b hb
    refine ⟨hb.1, fun h => ?_, fun h => hb.2.2 ((hφ b).2 (.inl h))⟩
    rcases hpmem b h with h | h
    · exact hb.2.1 h
    · exact hb.2.2 h.1
  have S2 : Slots φl φ qk.length (encPs (resI qk) 0 qk q) pb'l (resI qk) σ' pb' (outI ι pk.length σ.length qk) w' := by
    refine ⟨him, fun j hj => (hslot j hj).1, fun j hj cs2 h => ?_, fun j hj r xs g h => ?_⟩
    · rw [(hslot j hj).2.1] at h
      obtain ⟨k, x, h1, h2, h3⟩ := encPs_get j _ h
      refine ⟨?_, (hslot j hj).2.2⟩
      show ∃ cs1, (encPs (resI qk) 0 qk q)[j]? = _
      rw [h3 (resI qk)]
      cases k with
      | cells l => exact ⟨_, rfl⟩
      | rows r _ => cases h2
      | gone => cases h2
    · rw [(hslot j hj).2.1] at h
      obtain ⟨k, x, h1, h2, h3⟩ := encPs_get j _ h
      simp only [Nat.zero_add] at h2
      refine ⟨?_, ?_, (hslot j hj).2.2⟩
      · cases k with
        | rows r _ => cases h2; rfl
        | cells l => cases h2
        | gone => cases h2
      · show (encPs (resI qk) 0 qk q)[j]? = _
        rw [h3 (resI qk), Nat.zero_add]
        cases k with
        | rows r _ => cases h2; rfl
        | cells l => cases h2
        | gone => cases h2
  have he : @Ext φ σ pb w σ' pb' w' := by
    have hle : σ.length ≤ σ'.length := by omega
    refine @Ext.mk φ _ _ _ _ _ _ ew.os ew.tape ew.output ew.size ⟨fun b hb => ?_, fun b hb => ew.keeps.2 b ((hφ b).2 (.inl hb))⟩ ew.shp ⟨hle, fun k hk => ?_⟩
    · have := ew.keeps.1 b (S1.im b hb)
      exact ⟨him b this.1, this.2⟩
    · rcases hclass k (by omega) with ⟨j, hj, e⟩ | ⟨h1, h2, h3, h4⟩
      · have hjn : j < pk.length := by
          apply Classical.byContradiction
          intro h
          unfold outI at e
          rw [show Nat.blt j pk.length = false from by
            cases hb : Nat.blt j pk.length with
            | false => rfl
            | true => exact absurd (by simpa [Nat.blt_eq] using hb) h] at e
          simp only [cond_false] at e
          omega
        obtain ⟨x, hx⟩ := hι j hjn
        have ek : k = (atI ι j).1 := by
          rw [e]
          unfold outI
          rw [show Nat.blt j pk.length = true by simpa [Nat.blt_eq] using hjn]
          rfl
        have eg : (outI ι pk.length σ.length qk j).2 = bif kpAt qk j then (atI ι j).2 else (atI ι j).2 + 1 := by
          unfold outI
          rw [show Nat.blt j pk.length = true by simpa [Nat.blt_eq] using hjn]
          rfl
        refine ⟨fun cs' hc => ?_, fun r xs' g' hr => ?_⟩
        · rw [e] at hc
          obtain ⟨⟨cs1, c1⟩, c2⟩ := S2.cel j hj cs' hc
          obtain ⟨⟨cs2, c3⟩, c4⟩ := ewcel j (by omega) cs1 c1
          obtain ⟨c5, c6⟩ := S1.cel j hjn cs2 c3
          rw [ek]
          refine ⟨c5, ?_⟩
          rw [← c6, ← ek, e, c2]
          exact c4
        · rw [e] at hr
          obtain ⟨d1, d2, d3⟩ := S2.rws j hj r xs' g' hr
          obtain ⟨xs2, g2, d4⟩ := ewrws j (by omega) r xs' _ d2
          obtain ⟨d5, d6, d7⟩ := S1.rws j hjn r xs2 g2 d4
          rw [eg] at d1
          cases hkp : kpAt qk j with
          | false =>
            rw [hkp] at d1
            simp only [cond_false] at d1
            rw [ek]
            exact ⟨xs2, _, d6, by omega, fun e' => by omega⟩
          | true =>
            rw [hkp] at d1
            simp only [cond_true] at d1
            have hr0 : (resI qk j).2 = 0 := by unfold resI; rw [hkp]; rfl
            rw [hr0] at d2
            obtain ⟨xs3, f1, f2, f3⟩ := ewsty j (by omega) r xs' d2
            obtain ⟨f4, f5, f6⟩ := S1.rws j hjn r xs3 0 f1
            rw [ek]
            refine ⟨xs3, _, f5, by omega, fun _ => ⟨f2, ?_⟩⟩
            rw [← f6, ← ek, e, d3]
            exact f3
      · rw [h3, h4]
        exact ⟨fun cs h => ⟨⟨cs, h⟩, rfl⟩, fun r xs g h => ⟨xs, g, h, Nat.le_refl _, fun _ => ⟨rfl, rfl⟩⟩⟩
  refine ⟨pb', y, rfl, @St.mk φ _ _ _ _ (Nat.le_trans hsbs ew.size) hplen (fun i j b hi hj => ?_) (fun i b hi => ?_) (fun b hb => ?_) (fun k p o hk ho => ?_), he, S2.pack okr hy⟩
  · rcases hclass i (by rw [← hplen]; exact (List.getElem?_eq_some_iff.1 hi).1) with ⟨i', hi', rfl⟩ | ⟨h1, h2, h3, h4⟩ <;> rcases hclass j (by rw [← hplen]; exact (List.getElem?_eq_some_iff.1 hj).1) with ⟨j', hj', rfl⟩ | ⟨k1, k2, k3, k4⟩
    · rw [(hslot i' hi').2.2] at hi
      rw [(hslot j' hj').2.2] at hj
      rw [St'.inj i' j' b hi hj]
    · rw [(hslot i' hi').2.2] at hi
      rw [k4] at hj
      exact absurd (List.mem_of_getElem? hi) (St'.frn b (hoth j b k2 hj)).2
    · rw [(hslot j' hj').2.2] at hj
      rw [h4] at hi
      exact absurd (List.mem_of_getElem? hj) (St'.frn b (hoth i b h2 hi)).2
    · rw [h4] at hi
      rw [k4] at hj
      exact hsinj i j b hi hj
  · rcases hclass i (by rw [← hplen]; exact (List.getElem?_eq_some_iff.1 hi).1) with ⟨i', hi', rfl⟩ | ⟨h1, h2, h3, h4⟩
    · rw [(hslot i' hi').2.2] at hi
      exact St'.bnd i' b hi
    · rw [h4] at hi
      have := hsbnd i b hi
      exact ⟨this.1, Nat.lt_of_lt_of_le this.2 ew.size⟩
  · have := hsfrn b hb
    refine ⟨Nat.lt_of_lt_of_le this.1 ew.size, fun h => ?_⟩
    rcases hpmem b h with h | h
    · exact (St'.frn b ((hφ b).2 (.inl hb))).2 h
    · exact this.2 h.2
  · rcases hclass k (by rw [← hplen]; exact (List.getElem?_eq_some_iff.1 ho).1) with ⟨j, hj, rfl⟩ | ⟨h1, h2, h3, h4⟩
    · rw [(hslot j hj).2.1] at hk
      rw [(hslot j hj).2.2] at ho
      obtain ⟨k', x, c1, c2, c3⟩ := encPs_get j _ hk
      have := St'.pl j _ o (c3 (resI qk)) ho
      rw [c2]
      exact S2.encP (okPs_get okq j _ c1) this
    · rw [h3] at hk
      rw [h4] at ho
      refine @PlaceR.ext φ _ _ _ _ _ _ he _ _ (fun b hb => ?_) (hspl k p o hk ho)
      subst hb
      exact ew.keeps.2 b (hoth k b h2 ho)

end Go.Proofs.YtcngjidojibleaaPM
