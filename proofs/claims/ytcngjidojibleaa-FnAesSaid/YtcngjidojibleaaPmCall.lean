/- What is said of callees holds where they are called; and how a function's own code says it. -/
import Derived.Test.YtcngjidojibleaaPmBorrow
set_option linter.unusedVariables false
set_option linter.unusedSectionVars false
set_option linter.unusedSimpArgs false
namespace Go.Proofs.YtcngjidojibleaaPM
open Go Go.RowKit

structure SayOk (P : Program) (S : Say) : Prop where
  fit : (okAs S.pk.length S.ak && (okPs S.pk.length S.pk && (okAs S.qk.length S.rk && okPs S.qk.length S.qk))) = true
  ent : Enters P S.fn
  ok : ∀ a s u, S.F a s = some u → ∀ φ : Foreign, @FnOkW φ P S.fn (encAs locI S.ak a) (encPs locI 0 S.pk s) (packRes (encAs (resI S.qk) S.rk u.1)) (encPs (resI S.qk) 0 S.qk u.2)

theorem gather_len {acc : Acc} : ∀ {n j : Nat} {ι : List (Nat × Nat)}, gather acc j n = some ι → ι.length = n := by
  intro n
  induction n with
  | zero => intro j ι h; cases h; rfl
  | succ n ih =>
    intro j ι h
    simp only [gather] at h
    split at h
    · split at h
      · rename_i r hr
        cases h
        simp [ih hr]
      · cases h
    · cases h

theorem dec_ok [φ : Foreign] {P : Program} {S : Say} (hS : SayOk P S) {args : List PV} {σ : Sig} {x : List (Nat × Nat) × (adens S.ak × pdens S.pk)} (hx : S.dec args σ = some x) {u : adens S.rk × pdens S.qk} (hu : S.F x.2.1 x.2.2 = some u) :
    FnOk P S.fn args σ (packRes (encAs (outI x.1 S.pk.length σ.length S.qk) S.rk u.1)) (putAll σ x.1 (encPs (outI x.1 S.pk.length σ.length S.qk) 0 S.qk u.2)) := by
  have hf := hS.fit
  simp only [Bool.and_eq_true] at hf
  unfold Say.dec at hx
  split at hx
  · rename_i ι hι
    obtain ⟨hap, hx⟩ := bif_some hx
    split at hx
    · unfold Say.dec1 at hx
      split at hx
      · rename_i a ha
        split at hx
        · rename_i s hs
          cases hx
          exact frame φ (gather_len hι) (apartI_spec hap) ha hs hf.1 hf.2.1 hf.2.2.1 hf.2.2.2 (hS.ok a s u hu)
        · cases hx
      · cases hx
    · obtain ⟨hfl, hx⟩ := bif_some hx
      simp only [Bool.and_eq_true] at hfl
      unfold Say.dec1 at hx
      split at hx
      · rename_i a ha
        split at hx
        · rename_i s hs
          cases hx
          exact frameB (gather_len hι) (apartI_spec hap) ha hs hf.1 hf.2.1 hf.2.2.1 hf.2.2.2 hfl.1 hfl.2.1 (Nat.le_of_ble_eq_true hfl.2.2) (hS.ok a s u hu)
        · cases hx
      · cases hx
  · cases hx
theorem callBy_ok [φ : Foreign] {P : Program} : ∀ {l : List Say}, (∀ S ∈ l, SayOk P S) → CallOk P (callBy l) := by
  intro l
  induction l with
  | nil => intro _ R g args σ k r h; cases h
  | cons S l ih =>
    intro hl R g args σ k r h
    simp only [callBy] at h
    cases hg : Nat.beq g S.fn with
    | true =>
      rw [hg] at h
      have e := bbeq hg
      subst e
      simp only [cond_true] at h
      split at h
      · rename_i x hx
        obtain ⟨u, hu, h⟩ := andK_some h
        have hS := hl S (List.mem_cons_self ..)
        exact ⟨_, _, h, dec_ok hS hx hu, hS.ent⟩
      · exact ih (fun T hT => hl T (List.mem_cons_of_mem _ hT)) R _ args σ k r h
    | false =>
      rw [hg] at h
      exact ih (fun T hT => hl T (List.mem_cons_of_mem _ hT)) R g args σ k r h

theorem ARs.pack [Foreign] {σ : Sig} {pb : Pb} {w : World} {l : List PV} {ys : List Value} (h : ARs σ pb w l ys) : VR σ pb w (packRes l) (packV ys) := by
  match l, ys, h with
  | [], [], h => exact ⟨[], rfl, trivial⟩
  | [p], [y], h => exact h.1.vr
  | p :: q :: l, y :: z :: ys, h => exact ⟨_, rfl, h⟩
  | [], _ :: _, h => exact h.elim
  | _ :: _, [], h => exact h.elim
  | [_], _ :: _ :: _, h => exact h.2.elim
  | _ :: _ :: _, [_], h => exact h.2.elim

theorem ofFn_sound {P : Program} {call : Nat → CallK} {qt : Nat → FuncId → List PV → Sig → Cl} {H : Hints} (hc : ∀ φ : Foreign, ∀ N, @CallOk φ P (call N)) (hq : ∀ φ : Foreign, ∀ N, @QuietOk φ P (call N) (qt N)) (hm : P.follows .mixedOrders = true) {N : Nat} {g : FuncId} {fn : Func}
    (hg : P.funcs[g]? = some fn) {c : Code} (hb : fn.body = some c) (hk : okCode fn.ntmps c = true) {ak : List AK} {pk : List PK} {rk : List AK} {qk : List PK} {preps : List Prep} (hn : ak.length ≤ fn.ntmps)
    {a : adens ak} {s : pdens pk} {u : adens rk × pdens qk} (h : ofFn P call qt H N fn ak pk rk qk preps a s = some u) (φ : Foreign) :
    @FnOkW φ P g (encAs locI ak a) (encPs locI 0 pk s) (packRes (encAs (resI qk) rk u.1)) (encPs (resI qk) 0 qk u.2) := by
  have hal : ∀ {l : List AK} {d : adens l}, (encAs locI l d).length = l.length := by
    intro l
    induction l with
    | nil => intro d; rfl
    | cons c l ih => intro d; simp [encAs, ih]
  have hpl : (encPs locI 0 pk s).length = pk.length := encPs_len
  unfold ofFn at h
  obtain ⟨l, σ', h1, h2⟩ := fnK_sound (hc φ) (hq φ) hm N hg hb hk (by rw [hal]; exact hn) h
  intro base pb w vals hs hv
  refine Calls.mono (h2 base pb w vals hs hv) fun e w' he => ?_
  obtain ⟨pb', y, ys, rfl, hs', ew, hy, rfl⟩ := he
  have hyl : l.length = ys.length := by
    clear h1 h2
    induction l generalizing ys with
    | nil => cases ys with
      | nil => rfl
      | cons => exact hy.elim
    | cons p l ih => cases ys with
      | nil => exact hy.elim
      | cons y ys => simp [ih ys hy.2]
  have hfr : FR σ' pb' w' (Fr.args 0 l) ys.toArray := by
    intro t
    have := FR.args 0 0 [] hy rfl t
    simpa using this
  have hle : pk.length ≤ σ'.length := by have := ew.len; rw [hpl] at this; exact this
  obtain ⟨hl, h1⟩ := bif_some h1
  have hl := bbeq hl
  obtain ⟨pb2, b1, b2, b3⟩ := decPreps_ok (base := base) h1 hle (resI qk) (fun _ => rfl) resI_kp pb' w' ys.toArray hs' hfr
  refine ⟨pb2, _, rfl, b1, ExtN.trans ew (by rw [hpl]; exact b2), ?_⟩
  have e : (rng 0 rk.length).map (fun t => ys.toArray.getD t undef) = ys := by
    have hrl : rk.length = ys.length := by omega
    have go : ∀ (l pre : List Value), (rng pre.length l.length).map (fun t => (pre ++ l).toArray.getD t undef) = l := by
      intro l
      induction l with
      | nil => intro pre; rfl
      | cons x l ih =>
        intro pre
        simp only [List.length_cons, rng, List.map_cons]
        congr 1
        · simp
        · have := ih (pre ++ [x])
          simpa using this
    rw [hrl]
    exact go ys []
  rw [e] at b3
  exact b3.pack

end Go.Proofs.YtcngjidojibleaaPM
