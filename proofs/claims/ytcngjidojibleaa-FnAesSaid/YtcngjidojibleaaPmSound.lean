/- What is reckoned by values happens: regions, code, loops, functions. -/
import Derived.Test.YtcngjidojibleaaPmAlt
import Derived.LoopN
set_option linter.unusedVariables false
set_option linter.unusedSectionVars false
set_option linter.unusedSimpArgs false
namespace Go.Proofs.YtcngjidojibleaaPM
open Go Go.RowKit
variable [Foreign]

variable {P : Program} {call : CallK} {H : Hints} {R : Type}

theorem nbeq {a b : Nat} (h : a ≠ b) : Nat.beq a b = false := by
  cases hb : Nat.beq a b
  · rfl
  · exact absurd (Nat.eq_of_beq_eq_true hb) h

theorem opK_sound (hc : CallOk P call) {al : Bool} {f : Fr} {σ : Sig} {o : Oper} {k : PV → Sig → Option R} {r : R} (h : opK P call al f σ o k = some r) :
    ∃ p σ', k p σ' = some r ∧ OpOk P f σ o p σ' := by
  unfold opK at h
  split at h
  · rename_i c x y ho
    split at h
    · rename_i t ht
      cases t with
      | true => exact ⟨_, _, h, pick_ok ho ht⟩
      | false => exact ⟨_, _, h, pick_ok ho ht⟩
    · cases h
  · rename_i g args ts ho
    split at h
    · rename_i n caps hg
      obtain ⟨p, σ', hk, hf, he⟩ := hc _ _ _ _ _ _ h
      exact ⟨p, σ', hk, call_ok ho hg hf he⟩
    · cases h
  · split at h
    · rename_i t ht
      obtain ⟨h1, h2⟩ := chk_some h
      cases al with
      | false => exact ⟨_, _, h2, stp_ok ht h1⟩
      | true => exact ⟨_, _, h2, oAlt_ok ht h1⟩
    · cases h

theorem FR.put {σ : Sig} {pb : Pb} {w : World} {f : Fr} {a : Act} (h : FR σ pb w f a.tmps) {d : Option Nat} {p : PV} {y : Value} (hd : ∀ t, d = some t → t < a.tmps.size) (hp : VR σ pb w p y) :
    FR σ pb w (f.put d p) (a.put d y).tmps := by
  cases d with
  | none => exact h
  | some d =>
    intro t
    have hd := hd d rfl
    simp only [Fr.put, Fr.get, Act.put]
    by_cases e : d = t
    · subst e
      rw [show Nat.beq d d = true from Nat.beq_refl d]
      simpa [Array.getD_eq_getD_getElem?, hd] using hp
    · rw [nbeq e]
      have := h t
      simpa [Array.getD_eq_getD_getElem?, Array.getElem?_setIfInBounds, e] using this
theorem Act.put_size (a : Act) (d : Option Nat) (y : Value) : (a.put d y).tmps.size = a.tmps.size := by
  cases d <;> simp [Act.put]
theorem Act.put_defers (a : Act) (d : Option Nat) (y : Value) : (a.put d y).defers = a.defers := by
  cases d <;> simp [Act.put]
/-- What is kept beside what is written. -/
def Kp (l : List Oper) (a a' : Act) : Prop := a'.defers = a.defers ∧ ∀ t, unwO t l = true → a'.tmps.getD t undef = a.tmps.getD t undef
theorem Kp.refl (l : List Oper) (a : Act) : Kp l a a := ⟨rfl, fun _ _ => rfl⟩
theorem unwO_mem {t : Nat} {l : List Oper} (h : unwO t l = true) : ∀ o ∈ l, o.dst ≠ some t := by
  induction l with
  | nil => intro o ho; cases ho
  | cons x l ih =>
    intro o ho
    simp only [unwO, Bool.and_eq_true] at h
    rcases List.mem_cons.1 ho with rfl | ho
    · intro e
      rw [e] at h
      simp at h
    · exact ih h.2 o ho
theorem put_tmps {a : Act} {d : Option Nat} {y : Value} {t : Nat} (h : d ≠ some t) : (a.put d y).tmps.getD t undef = a.tmps.getD t undef := by
  cases d with
  | none => rfl
  | some d =>
    have : d ≠ t := fun e => h (by rw [e])
    simp [Act.put, Array.getD_eq_getD_getElem?, Array.getElem?_setIfInBounds, this]
theorem Kp.cons {o : Oper} {l : List Oper} {a a' : Act} {y : Value} (h : Kp l (a.put o.dst y) a') : Kp (o :: l) a a' :=
  ⟨by rw [h.1, Act.put_defers], fun t ht => by
    have h1 := unwO_mem ht o (List.mem_cons_self ..)
    simp only [unwO, Bool.and_eq_true] at ht
    rw [h.2 t ht.2, put_tmps h1]⟩
theorem Kp.put {o : Oper} {l : List Oper} {a a' : Act} {y : Value} (h : Kp l a a') (ho : o ∈ l) : Kp l a (a'.put o.dst y) :=
  ⟨by rw [Act.put_defers, h.1], fun t ht => by rw [put_tmps (unwO_mem ht o ho), h.2 t ht]⟩
theorem VR.dead (σ : Sig) (pb : Pb) (w : World) (y : Value) : VR σ pb w .dead y := trivial

/-- A piece that goes on: from a state to a state. -/
def GoOn (P : Program) (n : Nat) (f : Fr) (σ : Sig) (f' : Fr) (σ' : Sig) (W : (Act → World → Prop) → (Exit → Act → World → Prop) → Act → World → Prop) : Prop :=
  ∀ base pb w a, St base σ pb w → FR σ pb w f a.tmps → a.tmps.size = n → ∀ next Q,
    (∀ pb' w' (a' : Act), St base σ' pb' w' → Ext σ pb w σ' pb' w' → FR σ' pb' w' f' a'.tmps → a'.tmps.size = n → a'.defers = a.defers → next a' w') → W next Q a w

theorem yielded_none {σ : Sig} {pb : Pb} {w : World} {g : Fr} {a : Act} {all : List Oper} {j d : Nat} {u : Array Value} (hj : gdst all j = some d) (hd : g.get d = .v (.tuple u)) (hf : FR σ pb w g a.tmps) : yielded all.toArray a.tmps j = none := by
  have hv := hf d
  rw [hd] at hv
  have hv : a.tmps.getD d undef = .tuple u := hv
  unfold yielded
  unfold gdst at hj
  have : (all.toArray[j]?) = all[j]? := by simp
  rw [this]
  cases hal : all[j]? with
  | none => rfl
  | some z =>
    rw [hal] at hj
    simp only at hj
    rw [Array.getD_eq_getD_getElem?] at hv
    cases he : a.tmps[d]? with
    | none => simp [hj, he]
    | some y =>
      rw [he] at hv
      have hv : y = .tuple u := hv
      simp [hj, he, hv]
theorem opsK_sound (hc : CallOk P call) {alt : List Nat} (n : Nat) (all : List Oper) : ∀ (l : List Oper) (f : Fr) (σ : Sig) (k : Fr → Sig → Option R) (r : R), opsK P call alt all l f σ k = some r → okDsts n l = true →
    ∃ f' σ', k f' σ' = some r ∧ ∀ base pb w (a : Act), St base σ pb w → FR σ pb w f a.tmps → a.tmps.size = n → ∀ Q,
      (∀ pb' w' (a' : Act), St base σ' pb' w' → Ext σ pb w σ' pb' w' → FR σ' pb' w' f' a'.tmps → a'.tmps.size = n → Kp l a a' → Q .normal a' w') → wpList P all.toArray Q l a w := by
  intro l
  induction l with
  | nil =>
    intro f σ k r h _
    exact ⟨f, σ, h, fun base pb w a hs hf hn Q hq => hq pb w a hs (Ext.refl _ _ _) hf hn (Kp.refl _ _)⟩
  | cons o l ih =>
    intro f σ k r h hd
    simp only [okDsts, Bool.and_eq_true] at hd
    have hdo : ∀ t, o.dst = some t → t < n := by intro t ht; have := hd.1; rw [ht] at this; simpa using this
    have one : ∀ (f : Fr) (h : opK P call (dstIn o alt) f σ o (fun p σ' => opsK P call alt all l (f.put o.dst p) σ' k) = some r), ∃ f' σ', k f' σ' = some r ∧ ∀ base pb w (a : Act), St base σ pb w → FR σ pb w f a.tmps → a.tmps.size = n → ∀ Q,
        (∀ pb' w' (a' : Act), St base σ' pb' w' → Ext σ pb w σ' pb' w' → FR σ' pb' w' f' a'.tmps → a'.tmps.size = n → Kp (o :: l) a a' → Q .normal a' w') → o.wp P a w (wpList P all.toArray Q l) Q := by
      intro f h
      obtain ⟨p, σ1, h1, hok⟩ := opK_sound hc h
      obtain ⟨f', σ', h2, hl⟩ := ih _ _ _ _ h1 hd.2
      refine ⟨f', σ', h2, fun base pb w a hs hf hn Q hq => hok base pb w a hs hf _ _ fun pb1 w1 y hs1 he1 hv1 => ?_⟩
      refine hl base pb1 w1 (a.put o.dst y) hs1 (FR.put (hf.ext he1) (fun t ht => by rw [hn]; exact hdo t ht) hv1) (by rw [Act.put_size, hn]) Q fun pb' w' a' hs' he' hf' hn' hd' => ?_
      exact hq pb' w' a' hs' (he1.trans he') hf' hn' hd'.cons
    have skip : ∀ (f : Fr) (h : opsK P call alt all l (f.put o.dst undefV) σ k = some r), ∃ f' σ', k f' σ' = some r ∧ ∀ base pb w (a : Act), St base σ pb w → FR σ pb w f a.tmps → a.tmps.size = n → ∀ Q,
        (∀ pb' w' (a' : Act), St base σ' pb' w' → Ext σ pb w σ' pb' w' → FR σ' pb' w' f' a'.tmps → a'.tmps.size = n → Kp (o :: l) a a' → Q .normal a' w') → wpList P all.toArray Q l (a.put o.dst undef) w := by
      intro f h
      obtain ⟨f', σ', h2, hl⟩ := ih _ _ _ _ h hd.2
      refine ⟨f', σ', h2, fun base pb w a hs hf hn Q hq => hl base pb w (a.put o.dst undef) hs (FR.put hf (fun t ht => by rw [hn]; exact hdo t ht) rfl) (by rw [Act.put_size, hn]) Q fun pb' w' a' hs' he' hf' hn' hd' => ?_⟩
      exact hq pb' w' a' hs' he' hf' hn' hd'.cons
    unfold opsK at h
    cases hg : o.guard with
    | none =>
      rw [hg] at h
      obtain ⟨f', σ', h2, hl⟩ := one f h
      refine ⟨f', σ', h2, fun base pb w a hs hf hn Q hq => ?_⟩
      unfold wpList
      rw [if_pos (by simp [Region.wanted, hg])]
      exact .inl (hl base pb w a hs hf hn Q hq)
    | some jw =>
      obtain ⟨j, want⟩ := jw
      rw [hg] at h
      simp only at h
      cases hj : gdst all j with
      | none => rw [hj] at h; cases h
      | some d =>
        rw [hj] at h
        simp only at h
        split at h
        · rename_i t ht
          have hy : ∀ {pb : Pb} {w : World} {a : Act}, FR σ pb w f a.tmps → yielded all.toArray a.tmps j = some t ∧ FR σ pb w ((d, .v (.bool t)) :: f) a.tmps := by
            intro pb w a hf
            have hv := hf d
            rw [ht] at hv
            have hv : a.tmps.getD d undef = .bool t := hv
            have hlt : a.tmps[d]? = some (.bool t) := by
              rw [Array.getD_eq_getD_getElem?] at hv
              cases he : a.tmps[d]? with
              | none => rw [he] at hv; cases hv
              | some z => rw [he] at hv; exact congrArg some hv
            refine ⟨?_, fun u => ?_⟩
            · unfold yielded
              unfold gdst at hj
              have : (all.toArray[j]?) = all[j]? := by simp
              rw [this]
              cases hal : all[j]? with
              | none => rw [hal] at hj; cases hj
              | some z =>
                rw [hal] at hj
                simp only at hj
                simp [hj, hlt]
            · simp only [Fr.get]
              by_cases e : d = u
              · subst e; rw [show Nat.beq d d = true from Nat.beq_refl d]; exact hv
              · rw [nbeq e]; exact hf u
          cases t <;> cases want <;> simp only [sel] at h
          · obtain ⟨f', σ', h2, hl⟩ := one _ h
            refine ⟨f', σ', h2, fun base pb w a hs hf hn Q hq => ?_⟩
            obtain ⟨y1, y2⟩ := hy hf
            unfold wpList
            rw [if_pos (by simp [Region.wanted, hg, y1])]
            exact .inl (hl base pb w a hs y2 hn Q hq)
          · obtain ⟨f', σ', h2, hl⟩ := skip _ h
            refine ⟨f', σ', h2, fun base pb w a hs hf hn Q hq => ?_⟩
            obtain ⟨y1, y2⟩ := hy hf
            unfold wpList
            rw [if_neg (by simp [Region.wanted, hg, y1])]
            exact hl base pb w a hs y2 hn Q hq
          · obtain ⟨f', σ', h2, hl⟩ := skip _ h
            refine ⟨f', σ', h2, fun base pb w a hs hf hn Q hq => ?_⟩
            obtain ⟨y1, y2⟩ := hy hf
            unfold wpList
            rw [if_neg (by simp [Region.wanted, hg, y1])]
            exact hl base pb w a hs y2 hn Q hq
          · obtain ⟨f', σ', h2, hl⟩ := one _ h
            refine ⟨f', σ', h2, fun base pb w a hs hf hn Q hq => ?_⟩
            obtain ⟨y1, y2⟩ := hy hf
            unfold wpList
            rw [if_pos (by simp [Region.wanted, hg, y1])]
            exact .inl (hl base pb w a hs y2 hn Q hq)
        · rename_i u ht
          obtain ⟨f', σ', h2, hl⟩ := skip _ h
          refine ⟨f', σ', h2, fun base pb w a hs hf hn Q hq => ?_⟩
          have y1 : yielded all.toArray a.tmps j = none := yielded_none hj ht hf
          unfold wpList
          rw [if_neg (by simp [Region.wanted, hg, y1])]
          exact hl base pb w a hs hf hn Q hq
        · cases h

end Go.Proofs.YtcngjidojibleaaPM
