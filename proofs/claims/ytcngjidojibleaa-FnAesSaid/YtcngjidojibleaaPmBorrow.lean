/- A callee that only looks at the rows of others. -/
import Derived.Test.YtcngjidojibleaaPmFrame2
set_option linter.unusedVariables false
set_option linter.unusedSectionVars false
set_option linter.unusedSimpArgs false
namespace Go.Proofs.YtcngjidojibleaaPM
open Go Go.RowKit

theorem flat_move {φ1 φ2 : Foreign} {pb1 pb2 : Pb} {w : World} : ∀ {r : Sh} {x : r.den} {vs : List Value}, flatSh r = true → @ER φ1 pb1 w r x vs → @ER φ2 pb2 w r x vs := by
  intro r
  induction r with
  | int _ => exact fun _ h => h
  | bool => exact fun _ h => h
  | str => exact fun _ h => h
  | unit => exact fun _ h => h
  | rows r ih => intro x vs h; cases h
  | pair a b iha ihb =>
    intro x vs hf
    simp only [flatSh, Bool.and_eq_true] at hf
    rintro ⟨u, v, h, hu, hv⟩
    exact ⟨u, v, h, iha hf.1 hu, ihb hf.2 hv⟩

/-- As Slots, for kinds without rows of others. -/
structure SlotsF (φ1 φ2 : Foreign) (n : Nat) (σ1 : Sig) (pb1 : Pb) (m1 : Nat → Nat × Nat) (σ2 : Sig) (pb2 : Pb) (m2 : Nat → Nat × Nat) (w : World) : Prop where
  lt : ∀ j, j < n → (m2 j).1 < σ2.length
  cel : ∀ j, j < n → ∀ cs2, σ2[(m2 j).1]? = some (.cells cs2) → (∃ cs1, σ1[(m1 j).1]? = some (.cells cs1)) ∧ pb2[(m2 j).1]? = pb1[(m1 j).1]?
  rws : ∀ j, j < n → ∀ r xs g, σ2[(m2 j).1]? = some (.rows r xs g) → g = (m2 j).2 ∧ σ1[(m1 j).1]? = some (.rows r xs (m1 j).2) ∧ pb2[(m2 j).1]? = pb1[(m1 j).1]?
section
variable {φ1 φ2 : Foreign} {n : Nat} {σ1 : Sig} {pb1 : Pb} {m1 : Nat → Nat × Nat} {σ2 : Sig} {pb2 : Pb} {m2 : Nat → Nat × Nat} {w : World}
theorem SlotsF.encC (s : SlotsF φ1 φ2 n σ1 pb1 m1 σ2 pb2 m2 w) {c : CK} (hc : okC n c = true) (hf : flatC c = true) {x : c.den} {ys : List Value} (h : @CRs φ1 σ1 pb1 w (encC m1 c x) ys) : @CRs φ2 σ2 pb2 w (encC m2 c x) ys := by
  cases c with
  | sh r =>
    obtain ⟨u, v, e, h1, h2⟩ := @parse_er φ1 σ1 pb1 w r _ [] x ys (by have := @parse_cells r x []; rwa [List.append_nil] at this) h
    cases v with
    | nil =>
      simp only [List.append_nil] at e
      subst e
      exact @ER.crs φ2 σ2 pb2 w r x ys (flat_move hf h1)
    | cons => exact h2.elim
  | any => cases ys with
    | nil => exact h.elim
    | cons y ys => exact ⟨trivial, nil_move h.2⟩
  | nil => cases ys with
    | nil => exact h.elim
    | cons y ys => exact ⟨h.1, nil_move h.2⟩
  | ptr j o =>
    have hj : j < n := by simpa [okC, Nat.blt_eq] using hc
    cases ys with
    | nil => exact h.elim
    | cons y ys =>
      obtain ⟨hk, b, hy, hcs⟩ := h.1
      refine ⟨⟨s.lt j hj, b, hy, fun cs hcs2 => ?_⟩, nil_move h.2⟩
      obtain ⟨⟨cs1, e1⟩, e2⟩ := s.cel j hj cs hcs2
      rw [e2]
      exact hcs cs1 e1
  | own j =>
    have hj : j < n := by simpa [okC, Nat.blt_eq] using hc
    cases ys with
    | nil => exact h.elim
    | cons y ys =>
      obtain ⟨hk, hcs⟩ := h.1
      refine ⟨⟨s.lt j hj, fun r xs g hr => ?_⟩, nil_move h.2⟩
      obtain ⟨e0, e1, e2⟩ := s.rws j hj r xs g hr
      rw [e2]
      exact ⟨Nat.le_of_eq e0.symm, fun _ => (hcs r xs _ e1).2 rfl⟩
  | ref j =>
    have hj : j < n := by simpa [okC, Nat.blt_eq] using hc
    cases ys with
    | nil => exact h.elim
    | cons y ys =>
      obtain ⟨hk, hcs⟩ := h.1
      refine ⟨⟨s.lt j hj, fun r xs g hr => ?_⟩, nil_move h.2⟩
      obtain ⟨e0, e1, e2⟩ := s.rws j hj r xs g hr
      rw [e2]
      exact ⟨Nat.le_of_eq e0.symm, fun _ => (hcs r xs _ e1).2 rfl⟩
  | rp j off =>
    have hj : j < n := by simpa [okC, Nat.blt_eq] using hc
    cases ys with
    | nil => exact h.elim
    | cons y ys =>
      obtain ⟨hk, b, o, hy, hcs⟩ := h.1
      refine ⟨⟨s.lt j hj, b, o, hy, fun r xs g hr => ?_⟩, nil_move h.2⟩
      obtain ⟨e0, e1, e2⟩ := s.rws j hj r xs g hr
      rw [e2]
      exact ⟨Nat.le_of_eq e0.symm, fun _ => (hcs r xs _ e1).2 rfl⟩
  | apl j i m =>
    have hj : j < n := by simpa [okC, Nat.blt_eq] using hc
    cases ys with
    | nil => exact h.elim
    | cons y ys =>
      obtain ⟨hk, b, o, hy, hcs⟩ := h.1
      refine ⟨⟨s.lt j hj, b, o, hy, fun r xs g hr => ?_⟩, nil_move h.2⟩
      obtain ⟨e0, e1, e2⟩ := s.rws j hj r xs g hr
      rw [e2]
      exact ⟨Nat.le_of_eq e0.symm, fun _ => (hcs r xs _ e1).2 rfl⟩
  | ep r off => cases hf
theorem SlotsF.encL (s : SlotsF φ1 φ2 n σ1 pb1 m1 σ2 pb2 m2 w) : ∀ {l : List CK} (hc : okL n l = true) (hf : flatL l = true) {x : dens l} {ys : List Value} (h : @CRs φ1 σ1 pb1 w (encL m1 l x) ys), @CRs φ2 σ2 pb2 w (encL m2 l x) ys := by
  intro l
  induction l with
  | nil => intro hc hf x ys h; cases ys with
    | nil => exact trivial
    | cons => exact h.elim
  | cons c l ih =>
    intro hc hf x ys h
    simp only [okL, Bool.and_eq_true] at hc
    simp only [flatL, Bool.and_eq_true] at hf
    obtain ⟨u, v, rfl, h1, h2⟩ := @CRs.split φ1 _ _ _ _ _ _ h
    exact @CRs.append φ2 _ _ _ _ _ _ _ (s.encC hc.1 hf.1 h1) (ih hc.2 hf.2 h2)
theorem SlotsF.encA (s : SlotsF φ1 φ2 n σ1 pb1 m1 σ2 pb2 m2 w) {a : AK} (hc : okA n a = true) (hf : flatA a = true) {x : a.den} {y : Value} (h : @AR φ1 σ1 pb1 w (encA m1 a x) y) : @AR φ2 σ2 pb2 w (encA m2 a x) y := by
  cases a with
  | any => exact trivial
  | arr k => exact h
  | agg l => obtain ⟨ys, e, h⟩ := h; exact ⟨ys, e, s.encL hc hf h⟩
  | fn f l => obtain ⟨ys, e, h⟩ := h; exact ⟨ys, e, s.encL hc hf h⟩
  | one c =>
    simp only [Go.Proofs.YtcngjidojibleaaPM.encA] at h ⊢
    have hl := @encC_len m1 m2 c x
    have hce := @encC_cellish m1 c x
    have hmv := fun ys => @SlotsF.encC φ1 φ2 n σ1 pb1 m1 σ2 pb2 m2 w s c hc hf x ys
    generalize Go.Proofs.YtcngjidojibleaaPM.encC m1 c x = q1 at h hl hce hmv
    generalize Go.Proofs.YtcngjidojibleaaPM.encC m2 c x = q2 at hl hmv ⊢
    match q1, q2, hl with
    | [], [], _ => exact trivial
    | [p], [q], _ =>
      have h1 := @AR.cr φ1 _ _ _ _ _ (hce p (List.mem_singleton.2 rfl)) h
      exact @CR.ar φ2 _ _ _ _ _ (hmv [y] ⟨h1, trivial⟩).1
    | _ :: _ :: _, _ :: _ :: _, _ => exact trivial
theorem SlotsF.encAs (s : SlotsF φ1 φ2 n σ1 pb1 m1 σ2 pb2 m2 w) : ∀ {l : List AK} (hc : okAs n l = true) (hf : flatAs l = true) {x : adens l} {ys : List Value} (h : @ARs φ1 σ1 pb1 w (encAs m1 l x) ys), @ARs φ2 σ2 pb2 w (encAs m2 l x) ys := by
  intro l
  induction l with
  | nil => intro hc hf x ys h; cases ys with
    | nil => exact trivial
    | cons => exact h.elim
  | cons c l ih =>
    intro hc hf x ys h
    simp only [okAs, Bool.and_eq_true] at hc
    simp only [flatAs, Bool.and_eq_true] at hf
    cases ys with
    | nil => exact h.elim
    | cons y ys => exact ⟨s.encA hc.1 hf.1 h.1, ih hc.2 hf.2 h.2⟩
theorem SlotsF.encP (s : SlotsF φ1 φ2 n σ1 pb1 m1 σ2 pb2 m2 w) {p : PK} (hc : okP n p = true) (hf : flatP p = true) {x : p.den} {g1 g2 : Nat} {o : Option Nat} (h : @PlaceR φ1 σ1 pb1 w (encP m1 g1 p x) o) : @PlaceR φ2 σ2 pb2 w (encP m2 g2 p x) o := by
  cases p with
  | gone => cases o <;> exact trivial
  | cells l => cases o with
    | none => exact h.elim
    | some b => obtain ⟨c, e, f, h1, h2, h3⟩ := h; exact ⟨c, e, f, h1, h2, s.encL hc hf h3⟩
  | rows r _ => cases o with
    | none => exact h
    | some b =>
      obtain ⟨c, e, f, h1, h2, h3, h4⟩ := h
      refine ⟨c, e, f, h1, h2, h3, fun i hi => ?_⟩
      obtain ⟨vs, k1, k2, k3⟩ := h4 i hi
      exact ⟨vs, k1, k2, flat_move hf k3⟩
theorem SlotsF.pack (s : SlotsF φ1 φ2 n σ1 pb1 m1 σ2 pb2 m2 w) {l : List AK} (hc : okAs n l = true) (hf : flatAs l = true) {x : adens l} {y : Value} (h : @VR φ1 σ1 pb1 w (packRes (Go.Proofs.YtcngjidojibleaaPM.encAs m1 l x)) y) : @VR φ2 σ2 pb2 w (packRes (Go.Proofs.YtcngjidojibleaaPM.encAs m2 l x)) y := by
  match l, hc, hf, x, h with
  | [], hc, hf, x, h => obtain ⟨ys, e, h⟩ := h; exact ⟨ys, e, s.encAs (l := []) hc hf (x := x) h⟩
  | [a], hc, hf, x, h =>
    simp only [okAs, Bool.and_eq_true] at hc
    simp only [flatAs, Bool.and_eq_true] at hf
    exact @AR.vr φ2 _ _ _ _ _ (s.encA hc.1 hf.1 (@VR.ar φ1 _ _ _ _ _ (fun vs => encA_ntup vs) h))
  | a :: b :: l, hc, hf, x, h => obtain ⟨ys, e, h⟩ := h; exact ⟨ys, e, s.encAs (l := a :: b :: l) hc hf (x := x) h⟩
end

theorem flatPs_get : ∀ {l : List PK}, flatPs l = true → ∀ (i : Nat) (k : PK), l[i]? = some k → flatP k = true := by
  intro l
  induction l with
  | nil => intro _ i k h; simp at h
  | cons c l ih =>
    intro h i k hk
    simp only [flatPs, Bool.and_eq_true] at h
    cases i with
    | zero => cases hk; exact h.1
    | succ i => exact ih h.2 i k (by simpa using hk)
theorem hides_len : ∀ {l : List Nat} {f : Fr} {σ : Sig}, (hides l f σ).2.length = σ.length := by
  intro l
  induction l with
  | nil => intro f σ; rfl
  | cons k l ih =>
    intro f σ
    simp only [hides]
    rw [ih]
    unfold hide1
    split <;> simp
theorem pbz_len : ∀ {l : List Nat} {pb : Pb}, (pbz l pb).length = pb.length := by
  intro l
  induction l with
  | nil => intro pb; rfl
  | cons k l ih => intro pb; show (pbz l (pb.set k none)).length = _; rw [ih]; simp
theorem pbz_out : ∀ {l : List Nat} {pb : Pb} {k : Nat}, k ∉ l → (pbz l pb)[k]? = pb[k]? := by
  intro l
  induction l with
  | nil => intro pb k _; rfl
  | cons j l ih =>
    intro pb k h
    show (pbz l (pb.set j none))[k]? = _
    rw [ih (fun hm => h (List.mem_cons_of_mem _ hm)), List.getElem?_set_ne (fun e => h (by rw [e]; exact List.mem_cons_self ..))]
theorem pbz_in : ∀ {l : List Nat} {pb : Pb} {k b : Nat}, k ∈ l → (pbz l pb)[k]? ≠ some (some b) := by
  intro l
  induction l with
  | nil => intro pb k b h; cases h
  | cons j l ih =>
    intro pb k b h
    show (pbz l (pb.set j none))[k]? ≠ _
    by_cases hm : k ∈ l
    · exact ih hm
    · rw [pbz_out hm]
      rcases List.mem_cons.1 h with rfl | h
      · rw [List.getElem?_set]
        simp
      · exact absurd h hm
theorem pbz_sub {l : List Nat} {pb : Pb} {k b : Nat} (h : (pbz l pb)[k]? = some (some b)) : pb[k]? = some (some b) ∧ k ∉ l := by
  by_cases hm : k ∈ l
  · exact absurd h (pbz_in hm)
  · exact ⟨by rw [← h, pbz_out hm], hm⟩
theorem othersOf_mem {ι : List (Nat × Nat)} : ∀ {σ : Sig} {i k : Nat}, k ∈ othersOf ι i σ ↔ i ≤ k ∧ k < i + σ.length ∧ notIn k ι = true := by
  intro σ
  induction σ with
  | nil => intro i k; simp [othersOf]; omega
  | cons p σ ih =>
    intro i k
    simp only [othersOf, List.length_cons]
    cases hb : notIn i ι with
    | true =>
      simp only [cond_true, List.mem_cons, ih]
      constructor
      · rintro (rfl | ⟨h1, h2, h3⟩)
        · exact ⟨Nat.le_refl _, by omega, hb⟩
        · exact ⟨by omega, by omega, h3⟩
      · rintro ⟨h1, h2, h3⟩
        by_cases e : k = i
        · exact .inl e
        · exact .inr ⟨by omega, by omega, h3⟩
    | false =>
      simp only [cond_false, ih]
      constructor
      · rintro ⟨h1, h2, h3⟩; exact ⟨by omega, by omega, h3⟩
      · rintro ⟨h1, h2, h3⟩
        by_cases e : k = i
        · subst e; rw [hb] at h3; cases h3
        · exact ⟨by omega, by omega, h3⟩
theorem notIn_iff {k : Nat} : ∀ {l : List (Nat × Nat)}, (∀ (j : Nat) (x : Nat × Nat), l[j]? = some x → x.1 ≠ k) → notIn k l = true := by
  intro l
  induction l with
  | nil => intro _; rfl
  | cons y l ih =>
    intro h
    obtain ⟨i, g⟩ := y
    simp only [notIn, Bool.and_eq_true, Bool.not_eq_true']
    exact ⟨@nbeq ⟨fun _ => False⟩ _ _ (h 0 (i, g) rfl), ih fun j x hx => h (j + 1) x (by simpa using hx)⟩
theorem map_rng (l pre : List Value) : (rng pre.length l.length).map (fun t => (pre ++ l).toArray.getD t undef) = l := by
  induction l generalizing pre with
  | nil => rfl
  | cons x l ih =>
    simp only [List.length_cons, rng, List.map_cons]
    congr 1
    · simp
    · have := ih (pre ++ [x])
      simpa using this

theorem frameB [φ : Foreign] {P : Program} {g : FuncId} {ι : List (Nat × Nat)} {σ : Sig} {ak : List AK} {pk : List PK} {rk : List AK} {qk : List PK} {a : adens ak} {s : pdens pk} {r : adens rk} {q : pdens qk} {args : List PV}
    (hn : ι.length = pk.length) (hap : ApartI σ.length ι) (hda : decAs (atI ι) ak (getsF (hides (othersOf ι 0 σ) (Fr.args 0 args) σ).1 (rng 0 args.length)) = some a) (hdp : decPs (atI ι) (hides (othersOf ι 0 σ) (Fr.args 0 args) σ).2 0 pk = some s)
    (oka : okAs pk.length ak = true) (okp : okPs pk.length pk = true) (okr : okAs qk.length rk = true) (okq : okPs qk.length qk = true) (flr : flatAs rk = true) (flq : flatPs qk = true) (hnn : pk.length ≤ qk.length)
    (hcal : ∀ φ : Foreign, @FnOkW φ P g (encAs locI ak a) (encPs locI 0 pk s) (packRes (encAs (resI qk) rk r)) (encPs (resI qk) 0 qk q)) :
    @FnOk φ P g args σ (packRes (encAs (outI ι pk.length σ.length qk) rk r)) (putAll σ ι (encPs (outI ι pk.length σ.length qk) 0 qk q)) := by
  intro base pb w vals hs hv
  have hl := hs.len
  have hvl : args.length = vals.length := by
    clear hda hdp hcal
    induction args generalizing vals with
    | nil => cases vals with
      | nil => rfl
      | cons => exact hv.elim
    | cons p ps ih => cases vals with
      | nil => exact hv.elim
      | cons y ys => simp [ih _ hv.2]
  have hfr : FR σ pb w (Fr.args 0 args) vals.toArray := by
    intro t
    have := FR.args 0 0 [] hv rfl t
    simpa using this
  obtain ⟨Sh, E1, F1⟩ := hides_at (l := othersOf ι 0 σ) hs hfr
  have hsl : (hides (othersOf ι 0 σ) (Fr.args 0 args) σ).2.length = σ.length := hides_len
  have hpl : (pbz (othersOf ι 0 σ) pb).length = pb.length := pbz_len
  generalize hσh : (hides (othersOf ι 0 σ) (Fr.args 0 args) σ).2 = σh at Sh E1 F1 hsl hdp
  generalize hfh : (hides (othersOf ι 0 σ) (Fr.args 0 args) σ).1 = fh at F1 hda
  obtain ⟨pbh, hpbh⟩ : ∃ p, p = pbz (othersOf ι 0 σ) pb := ⟨_, rfl⟩
  rw [← hpbh] at Sh E1 F1 hpl
  have hva : VRs σh pbh w (getsF fh (rng 0 args.length)) vals := by
    have := getsF_rel F1 (rng 0 args.length)
    have e : (rng 0 args.length).map (fun t => vals.toArray.getD t undef) = vals := by
      rw [hvl]
      exact map_rng vals []
    rwa [e] at this
  have hother : ∀ k, k < σ.length → (∀ (j : Nat) (x : Nat × Nat), ι[j]? = some x → x.1 ≠ k) → k ∈ othersOf ι 0 σ := fun k hk hno => othersOf_mem.2 ⟨Nat.zero_le _, by omega, notIn_iff hno⟩
  have hmain := frame φ (σ := σh) (args := getsF fh (rng 0 args.length)) hn (by rw [hsl]; exact hap) hda hdp oka okp okr okq hcal
  rw [hsl] at hmain
  refine Calls.mono (hmain base pbh w vals Sh hva) fun e w' he => ?_
  obtain ⟨pb2, y, rfl, S2, E2, V2⟩ := he
  have hq' : (encPs (outI ι pk.length σ.length qk) 0 qk q).length = qk.length := encPs_len
  obtain ⟨a1, a2, a3, a4⟩ := putAll_spec ι σ (encPs (outI ι pk.length σ.length qk) 0 qk q) hap (by rw [hq', hn]; exact hnn)
  obtain ⟨b1, b2, b3, b4⟩ := putAll_spec ι σh (encPs (outI ι pk.length σ.length qk) 0 qk q) (by rw [hsl]; exact hap) (by rw [hq', hn]; exact hnn)
  obtain ⟨P2, hP2⟩ : ∃ p : Pb, p = (List.range qk.length).map fun j => (pb2[(outI ι pk.length σ.length qk j).1]?).getD none := ⟨_, rfl⟩
  have hP2l : P2.length = qk.length := by simp [hP2]
  obtain ⟨c1, c2, c3, c4⟩ := putAll_spec ι pb P2 (by rw [hl]; exact hap) (by rw [hP2l, hn]; exact hnn)
  generalize hσ' : putAll σ ι (encPs (outI ι pk.length σ.length qk) 0 qk q) = σ' at a1 a2 a3 a4
  generalize hσ2 : putAll σh ι (encPs (outI ι pk.length σ.length qk) 0 qk q) = σ2 at b1 b2 b3 b4 S2 E2 V2
  generalize hpb' : putAll pb ι P2 = pb' at c1 c2 c3 c4
  have hι : ∀ j, j < pk.length → ∃ x, ι[j]? = some x := fun j hj => ⟨ι[j]'(by omega), List.getElem?_eq_getElem (by omega)⟩
  have hP2g : ∀ j, j < qk.length → (outI ι pk.length σ.length qk j).1 < pb2.length → P2[j]? = pb2[(outI ι pk.length σ.length qk j).1]? := by
    intro j hj hlt
    rw [hP2, List.getElem?_map, List.getElem?_range hj]
    simp [List.getElem?_eq_getElem hlt]
  have hpb2l : pb2.length = σ2.length := S2.len
  -- slots
  have hslot : ∀ j, j < qk.length → (outI ι pk.length σ.length qk j).1 < σ'.length ∧ σ'[(outI ι pk.length σ.length qk j).1]? = (encPs (outI ι pk.length σ.length qk) 0 qk q)[j]? ∧ σ2[(outI ι pk.length σ.length qk j).1]? = (encPs (outI ι pk.length σ.length qk) 0 qk q)[j]? ∧ pb'[(outI ι pk.length σ.length qk j).1]? = pb2[(outI ι pk.length σ.length qk j).1]? := by
    intro j hj
    have hg := hP2g j hj
    unfold outI at hg ⊢
    cases hb : Nat.blt j pk.length with
    | true =>
      have hjn : j < pk.length := by simpa [Nat.blt_eq] using hb
      obtain ⟨x, hx⟩ := hι j hjn
      rw [hb] at hg
      simp only [cond_true, atI_get hx] at hg ⊢
      have := hap.lt j x hx
      exact ⟨by omega, a2 j x hx, b2 j x hx, by rw [c2 j x hx]; exact hg (by omega)⟩
    | false =>
      have hjn : ¬ j < pk.length := fun h => by rw [show Nat.blt j pk.length = true by simpa [Nat.blt_eq] using h] at hb; cases hb
      rw [hb] at hg
      simp only [cond_false] at hg ⊢
      refine ⟨by omega, ?_, ?_, ?_⟩
      · have := a4 (j - pk.length)
        rw [show ι.length + (j - pk.length) = j by omega] at this
        exact this
      · have := b4 (j - pk.length)
        rw [show ι.length + (j - pk.length) = j by omega, hsl] at this
        exact this
      · have := c4 (j - pk.length)
        rw [show ι.length + (j - pk.length) = j by omega, hl] at this
        rw [this]
        exact hg (by omega)
  have hclass : ∀ k, k < σ'.length → (∃ j, j < qk.length ∧ k = (outI ι pk.length σ.length qk j).1) ∨ (k < σ.length ∧ k ∈ othersOf ι 0 σ ∧ σ'[k]? = σ[k]? ∧ pb'[k]? = pb[k]?) := by
    intro k hk
    by_cases hin : ∃ (j : Nat) (x : Nat × Nat), ι[j]? = some x ∧ x.1 = k
    · obtain ⟨j, x, hx, e⟩ := hin
      have hj : j < pk.length := by rw [← hn]; exact (List.getElem?_eq_some_iff.1 hx).1
      refine .inl ⟨j, by omega, ?_⟩
      unfold outI
      rw [show Nat.blt j pk.length = true by simpa [Nat.blt_eq] using hj, atI_get hx]
      exact e.symm
    · have hno : ∀ (j : Nat) (x : Nat × Nat), ι[j]? = some x → x.1 ≠ k := fun j x hx e => hin ⟨j, x, hx, e⟩
      by_cases hlt : k < σ.length
      · exact .inr ⟨hlt, hother k hlt hno, a3 k hlt hno, c3 k (by omega) hno⟩
      · refine .inl ⟨pk.length + (k - σ.length), by omega, ?_⟩
        unfold outI
        rw [show Nat.blt (pk.length + (k - σ.length)) pk.length = false from by
          cases h : Nat.blt (pk.length + (k - σ.length)) pk.length with
          | false => rfl
          | true => have : pk.length + (k - σ.length) < pk.length := by simpa [Nat.blt_eq] using h
                    omega]
        simp only [cond_false]
        omega
  have hplen : pb'.length = σ'.length := by omega
  -- what is out of sight stays
  have hkept : ∀ k b : Nat, k ∈ othersOf ι 0 σ → pb[k]? = some (some b) → Im pb2 w' b ∧ w'.heap[b]? = w.heap[b]? := by
    intro k b hk hb
    refine E2.keeps.1 b ⟨(hs.bnd k b hb).2, fun hm => ?_, fun hx => (hs.frn b hx).2 (List.mem_of_getElem? hb)⟩
    obtain ⟨i, hi, e⟩ := List.getElem_of_mem hm
    have hi2 : pbh[i]? = some (some b) := by rw [List.getElem?_eq_getElem hi, e]
    rw [hpbh] at hi2
    obtain ⟨h1, h2⟩ := pbz_sub hi2
    exact h2 (hs.inj i k b h1 hb ▸ hk)
  have hpmem : ∀ b : Nat, some b ∈ pb' → some b ∈ pb2 ∨ (∃ k, k ∈ othersOf ι 0 σ ∧ pb[k]? = some (some b)) := by
    intro b hb
    obtain ⟨k, hk, e⟩ := List.getElem_of_mem hb
    have hg : pb'[k]? = some (some b) := by rw [List.getElem?_eq_getElem hk, e]
    rcases hclass k (by omega) with ⟨j, hj, rfl⟩ | ⟨h1, h2, h3, h4⟩
    · rw [(hslot j hj).2.2.2] at hg
      exact .inl (List.mem_of_getElem? hg)
    · rw [h4] at hg
      exact .inr ⟨k, h2, hg⟩
  have ET := E1.trans E2
  have he : Ext σ pb w σ' pb' w' := by
    refine ⟨ET.os, ET.tape, ET.output, ET.size, ⟨fun b hb => ?_, ET.keeps.2⟩, ET.shp, ⟨by omega, fun k hk => ?_⟩⟩
    · obtain ⟨k1, k2⟩ := ET.keeps.1 b hb
      refine ⟨⟨k1.1, fun h => ?_, k1.2.2⟩, k2⟩
      rcases hpmem b h with h | ⟨k, h1, h2⟩
      · exact k1.2.1 h
      · exact hb.2.1 (List.mem_of_getElem? h2)
    · rcases hclass k (by omega) with ⟨j, hj, e⟩ | ⟨h1, h2, h3, h4⟩
      · have hsame : σ'[k]? = σ2[k]? := by rw [e, (hslot j hj).2.1, (hslot j hj).2.2.1]
        have hpsame : pb'[k]? = pb2[k]? := by rw [e]; exact (hslot j hj).2.2.2
        rw [hsame, hpsame]
        exact ET.pls.2 k hk
      · rw [h3, h4]
        exact ⟨fun cs h => ⟨⟨cs, h⟩, rfl⟩, fun r xs g h => ⟨xs, g, h, Nat.le_refl _, fun _ => ⟨rfl, rfl⟩⟩⟩
  have SF : SlotsF φ φ qk.length σ2 pb2 (outI ι pk.length σ.length qk) σ' pb' (outI ι pk.length σ.length qk) w' := by
    refine ⟨fun j hj => (hslot j hj).1, fun j hj cs2 h => ?_, fun j hj r xs g h => ?_⟩
    · rw [(hslot j hj).2.1, ← (hslot j hj).2.2.1] at h
      exact ⟨⟨_, h⟩, (hslot j hj).2.2.2⟩
    · have h0 := h
      rw [(hslot j hj).2.1] at h
      obtain ⟨k, x, e1, e2, _⟩ := encPs_get j _ h
      simp only [Nat.zero_add] at e2
      have hgen : g = (outI ι pk.length σ.length qk j).2 := by
        cases k with
        | rows r _ => cases e2; rfl
        | cells l => cases e2
        | gone => cases e2
      subst hgen
      rw [← (hslot j hj).2.2.1] at h
      exact ⟨rfl, h, (hslot j hj).2.2.2⟩
  refine ⟨pb', y, rfl, ⟨S2.bs, hplen, fun i j b hi hj => ?_, fun i b hi => ?_, fun b hb => ⟨(S2.frn b hb).1, fun h => ?_⟩, fun k p o hk ho => ?_⟩, he, SF.pack okr flr V2⟩
  · rcases hclass i (by rw [← hplen]; exact (List.getElem?_eq_some_iff.1 hi).1) with ⟨i', hi', rfl⟩ | ⟨h1, h2, h3, h4⟩ <;> rcases hclass j (by rw [← hplen]; exact (List.getElem?_eq_some_iff.1 hj).1) with ⟨j', hj', rfl⟩ | ⟨k1, k2, k3, k4⟩
    · rw [(hslot i' hi').2.2.2] at hi
      rw [(hslot j' hj').2.2.2] at hj
      exact S2.inj _ _ b hi hj
    · rw [(hslot i' hi').2.2.2] at hi
      rw [k4] at hj
      exact absurd (List.mem_of_getElem? hi) (hkept j b k2 hj).1.2.1
    · rw [(hslot j' hj').2.2.2] at hj
      rw [h4] at hi
      exact absurd (List.mem_of_getElem? hj) (hkept i b h2 hi).1.2.1
    · rw [h4] at hi
      rw [k4] at hj
      exact hs.inj i j b hi hj
  · rcases hclass i (by rw [← hplen]; exact (List.getElem?_eq_some_iff.1 hi).1) with ⟨i', hi', rfl⟩ | ⟨h1, h2, h3, h4⟩
    · rw [(hslot i' hi').2.2.2] at hi
      exact S2.bnd _ b hi
    · rw [h4] at hi
      have := hs.bnd i b hi
      exact ⟨this.1, Nat.lt_of_lt_of_le this.2 ET.size⟩
  · rcases hpmem b h with h | ⟨k, h1, h2⟩
    · exact (S2.frn b hb).2 h
    · exact (hs.frn b hb).2 (List.mem_of_getElem? h2)
  · rcases hclass k (by rw [← hplen]; exact (List.getElem?_eq_some_iff.1 ho).1) with ⟨j, hj, rfl⟩ | ⟨h1, h2, h3, h4⟩
    · rw [(hslot j hj).2.1] at hk
      rw [(hslot j hj).2.2.2] at ho
      obtain ⟨k', x, e1, e2, e3⟩ := encPs_get j _ hk
      have := S2.pl _ p o (by rw [(hslot j hj).2.2.1]; exact hk) ho
      rw [e2] at this ⊢
      exact SF.encP (okPs_get okq j _ e1) (flatPs_get flq j _ e1) this
    · rw [h3] at hk
      rw [h4] at ho
      refine PlaceR.ext he (fun b hb => ?_) (hs.pl k p o hk ho)
      subst hb
      exact (hkept k b h2 ho).2

end Go.Proofs.YtcngjidojibleaaPM
