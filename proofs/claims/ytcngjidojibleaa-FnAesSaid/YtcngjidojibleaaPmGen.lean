/- What the printed texts of functions stand on. -/
import Derived.Test.YtcngjidojibleaaPmLink
import Derived.KernelRfl
set_option linter.unusedVariables false
set_option linter.unusedSectionVars false
set_option linter.unusedSimpArgs false
namespace Go.Proofs.YtcngjidojibleaaPM
open Go Go.RowKit

abbrev ck_i : CK := .sh (.int .i64)
abbrev ck_b : CK := .sh .bool
abbrev ck_s : CK := .sh .str
abbrev ak_i : AK := .one ck_i
abbrev ak_b : AK := .one ck_b
abbrev ak_s : AK := .one ck_s

def hintsOf : List (Nat × Cut) → Hints
  | [], _ => .none
  | (k, c) :: r, n => bif Nat.beq n k then c else hintsOf r n
/-- What a call has to do with memory. -/
def maskOf : List (Nat × Nat) → Nat
  | [] => 0
  | (k, _) :: r => Nat.lor (2 ^ k) (maskOf r)
def noPl (S : Say) : Bool := match S.pk, S.qk with
  | [], [] => true
  | _, _ => false
def qtBy : List Say → FuncId → List PV → Sig → Cl
  | [], _, _, _ => .wrAll
  | S :: l, g, args, σ => bif Nat.beq g S.fn then (match S.dec args σ with
    | some x => bif noPl S then (bif S.bor then .rdAll else .pure) else .wl (maskOf x.1) σ.length
    | none => qtBy l g args σ) else qtBy l g args σ

def SayAll (P : Program) (l : List Say) : Prop := ∀ S ∈ l, SayOk P S
theorem SayAll.nil {P : Program} : SayAll P [] := fun S h => by cases h
theorem SayAll.cons {P : Program} {S : Say} {l : List Say} (h : SayOk P S) (k : SayAll P l) : SayAll P (S :: l) := fun T hT => by
  rcases List.mem_cons.1 hT with rfl | hT
  · exact h
  · exact k T hT

theorem putAll_keep [Foreign] {l : Sig} : ∀ {ι : List (Nat × Nat)} {ps : List Place} {m : Sig} {k : Nat}, k < m.length → Nat.testBit (maskOf ι) k = false → (putAll m ι ps)[k]? = m[k]? := by
  intro ι
  induction ι with
  | nil => intro ps m k hk _; simp only [putAll]; rw [List.getElem?_append_left hk]
  | cons x ι ih =>
    intro ps m k hk hb
    obtain ⟨j, g⟩ := x
    have hb : Nat.testBit (2 ^ j ||| maskOf ι) k = false := hb
    rw [Nat.testBit_or, Bool.or_eq_false_iff] at hb
    cases ps with
    | nil => rfl
    | cons p ps =>
      simp only [putAll]
      rw [ih (by simpa using hk) hb.2]
      have := bit_ne hb.1
      rw [List.getElem?_set_ne (fun e => this e.symm)]

theorem encC_free {c : CK} (h : okC 0 c = true) (m m' : Nat → Nat × Nat) (d : c.den) : encC m c d = encC m' c d := by
  cases c <;> first | rfl | (simp only [okC] at h; cases h)
theorem encL_free {l : List CK} (h : okL 0 l = true) (m m' : Nat → Nat × Nat) (d : dens l) : encL m l d = encL m' l d := by
  induction l with
  | nil => rfl
  | cons c l ih =>
    simp only [okL, Bool.and_eq_true] at h
    simp only [encL]
    rw [encC_free h.1 m m', ih h.2]
theorem encA_free {a : AK} (h : okA 0 a = true) (m m' : Nat → Nat × Nat) (d : a.den) : encA m a d = encA m' a d := by
  cases a with
  | one c => simp only [encA]; rw [encC_free h m m']
  | agg l => simp only [encA]; rw [encL_free h m m']
  | fn f l => simp only [encA]; rw [encL_free h m m']
  | _ => rfl
theorem encAs_free {l : List AK} (h : okAs 0 l = true) (m m' : Nat → Nat × Nat) (d : adens l) : encAs m l d = encAs m' l d := by
  induction l with
  | nil => rfl
  | cons c l ih =>
    simp only [okAs, Bool.and_eq_true] at h
    simp only [encAs]
    rw [encA_free h.1 m m', ih h.2]
theorem dec_free {S : Say} (hb : S.bor = false) (hp : S.pk = []) (args : List PV) (σ σ2 : Sig) : S.dec args σ2 = S.dec args σ := by
  obtain ⟨bor, fn, ak, pk, rk, qk, F⟩ := S
  subst hb hp
  rfl

theorem qtBy_ok [φ : Foreign] {P : Program} : ∀ {l : List Say}, SayAll P l → QuietOk P (callBy l) (qtBy l) := by
  intro l
  induction l with
  | nil => intro _ R g args σ k r h; cases h
  | cons S l ih =>
    intro hl R g args σ k r h
    simp only [callBy] at h
    simp only [qtBy]
    cases hb : Nat.beq g S.fn with
    | true =>
      rw [hb] at h
      have e := bbeq hb
      subst e
      simp only [cond_true] at h ⊢
      split at h
      · rename_i x hx
        rw [hx]
        simp only
        obtain ⟨u, hu, h⟩ := andK_some h
        have hS := hl S (List.mem_cons_self ..)
        have hok := dec_ok hS hx hu
        cases hn : noPl S with
        | false => exact ⟨_, _, h, hok, hS.ent, fun k hk hb => putAll_keep (l := σ) hk hb, fun hw => by cases hw⟩
        | true =>
            simp only [cond_true]
            have hpq : S.pk = [] ∧ S.qk = [] := by
              unfold noPl at hn
              split at hn
              · rename_i e1 e2; exact ⟨e1, e2⟩
              · cases hn
            have hι0 : x.1 = [] := by
              unfold Say.dec at hx
              split at hx
              · rename_i ι hι
                obtain ⟨hap, hx⟩ := bif_some hx
                have h0 : ι = [] := by
                  have := gather_len hι
                  rw [hpq.1] at this
                  exact List.eq_nil_of_length_eq_zero this
                have d1 : ∀ {a : List PV} {s : Sig} {y : List (Nat × Nat) × (adens S.ak × pdens S.pk)}, S.dec1 ι a s = some y → y.1 = ι := by
                  intro a s y h
                  unfold Say.dec1 at h
                  split at h
                  · split at h
                    · cases h; rfl
                    · cases h
                  · cases h
                split at hx
                · rw [d1 hx, h0]
                · rw [d1 (bif_some hx).2, h0]
              · cases hx
            have hput : ∀ σ : Sig, putAll σ x.1 (encPs (outI x.1 S.pk.length σ.length S.qk) 0 S.qk u.2) = σ := by
             intro σ
             rw [hι0]
             simp only [putAll]
             have : (encPs (outI [] S.pk.length σ.length S.qk) 0 S.qk u.2).length = S.qk.length := encPs_len
             rw [List.eq_nil_of_length_eq_zero (this.trans (by rw [hpq.2]; rfl)), List.append_nil]
            rw [hput] at h hok
            refine ⟨_, _, h, hok, hS.ent, ?_, ?_⟩
            · cases S.bor <;> rfl
            · intro _ σ2 ha
              cases hb : S.bor with
              | true =>
                rw [hb] at ha
                obtain rfl : σ2 = σ := ha
                exact hok
              | false =>
                have hok2 := dec_ok hS (σ := σ2) (by rw [dec_free hb hpq.1]; exact hx) hu
                rw [hput] at hok2
                have hf := hS.fit
                simp only [Bool.and_eq_true] at hf
                have h0 : okAs 0 S.rk = true := by have := hf.2.2.1; rw [hpq.2] at this; exact this
                rw [encAs_free h0 _ (outI x.1 S.pk.length σ.length S.qk)] at hok2
                exact hok2
      · rename_i hx
        rw [hx]
        exact ih (fun T hT => hl T (List.mem_cons_of_mem _ hT)) R _ args σ k r h
    | false =>
      rw [hb] at h
      exact ih (fun T hT => hl T (List.mem_cons_of_mem _ hT)) R g args σ k r h

/-- The same, where rows are lent. -/
def Say.lent (S : Say) : Say := ⟨true, S.fn, S.ak, S.pk, S.rk, S.qk, S.F⟩
theorem SayOk.lent {P : Program} {S : Say} (h : SayOk P S) : SayOk P S.lent := ⟨h.fit, h.ent, h.ok⟩
theorem enters_mk {P : Program} {g : FuncId} {fn : Func} {c : Code} (h2 : P.funcs[g]? = some fn) (h3 : fn.body = some c) (h6 : (fn.name == "runtime.NumGoroutine") = false) : Enters P g := by
  intro args w
  unfold callFunc
  simp only [program, Sem.run_bind]
  show (Sem.run P (Sem.program Sem.pure) w).andThen _ = _
  simp only [Sem.run, Result.andThen_ok, h2, h6, h3]
  rfl

theorem sayOk_mk {P : Program} {S : Say} {fn : Func} {c : Code} {H : Hints} {preps : List Prep} {l : Nat → List Say} {N : Nat}
    (h1 : (okAs S.pk.length S.ak && (okPs S.pk.length S.pk && (okAs S.qk.length S.rk && okPs S.qk.length S.qk))) = true)
    (h2 : P.funcs[S.fn]? = some fn) (h3 : fn.body = some c) (h4 : okCode fn.ntmps c = true) (h5 : P.follows .mixedOrders = true) (h6 : (fn.name == "runtime.NumGoroutine") = false)
    (h7 : Nat.ble S.ak.length fn.ntmps = true) (h8 : ∀ N, SayAll P (l N))
    (h10 : ∀ a s, S.F a s = ofFn P (fun N => callBy (l N)) (fun N => qtBy (l N)) H N fn S.ak S.pk S.rk S.qk preps a s) : SayOk P S :=
  ⟨h1, enters_mk h2 h3 h6, fun a s u hu φ => by
    rw [h10] at hu
    exact ofFn_sound (fun φ N => callBy_ok (h8 N)) (fun φ N => qtBy_ok (h8 N)) h5 h2 h3 h4 (Nat.le_of_ble_eq_true h7) hu φ⟩

end Go.Proofs.YtcngjidojibleaaPM
