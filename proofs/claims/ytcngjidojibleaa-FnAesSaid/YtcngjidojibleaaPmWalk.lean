/- Code, loops and functions. -/
import Derived.Test.YtcngjidojibleaaPmPrep
import Derived.LoopN
set_option linter.unusedVariables false
set_option linter.unusedSectionVars false
set_option linter.unusedSimpArgs false
namespace Go.Proofs.YtcngjidojibleaaPM
open Go Go.RowKit
variable [Foreign]

variable {P : Program} {call : Nat → CallK} {H : Hints} {R : Type} {qt : Nat → FuncId → List PV → Sig → Cl}

/-- What a function does, seen from inside. -/
def FnOkW (P : Program) (g : FuncId) (args : List PV) (σ : Sig) (p : PV) (σ' : Sig) : Prop :=
  ∀ base pb w (vals : List Value), St base σ pb w → VRs σ pb w args vals → Calls P g vals.toArray w fun e w' => ∃ pb' y, e = .returned y ∧ St base σ' pb' w' ∧ ExtW σ pb w σ' pb' w' ∧ VR σ' pb' w' p y

def exOf : Ex → Exit
  | .normal => .normal
  | .exit id => .exit id
  | .ret => .ret

def CodeOk (P : Program) (n : Nat) (c : Code) (f : Fr) (σ : Sig) (e : Ex) (f' : Fr) (σ' : Sig) : Prop :=
  ∀ base pb w a, St base σ pb w → FR σ pb w f a.tmps → a.tmps.size = n → ∀ Q,
    (∀ pb' w' (a' : Act), St base σ' pb' w' → ExtW σ pb w σ' pb' w' → FR σ' pb' w' f' a'.tmps → a'.tmps.size = n → KpC c a a' → Q (exOf e) a' w') → c.wp P Q a w
/-- What a run by values promises. -/
def RunOk (P : Program) (n : Nat) (c : Code) (f : Fr) (σ : Sig) (run : (R : Type) → (Ex → Fr → Sig → Option R) → Option R) : Prop :=
  ∀ (R : Type) (k : Ex → Fr → Sig → Option R) (r : R), run R k = some r → ∃ e f' σ', k e f' σ' = some r ∧ CodeOk P n c f σ e f' σ'

theorem CodeOk.turn {n : Nat} {c : Code} {f f1 : Fr} {σ σ1 σ' : Sig} {e : Ex} {ts : List Nat} {ps : List PV} {kp : List Nat} (h : CodeOk P n c f σ e f1 σ1) (k : ∀ base, Turned σ.length base f1 σ1 (zipF ts ps) σ') : CodeOk P n c f σ e (zipF ts ps ++ keptF c f kp) σ' := by
  intro base pb w a hs hf hn Q hq
  refine h base pb w a hs hf hn Q fun pb1 w1 a1 hs1 he1 hf1 hn1 hd1 => ?_
  obtain ⟨pb', b1, b2, b3⟩ := k base pb1 w1 a1.tmps he1.len hs1 hf1
  have he := ExtN.trans he1 b2
  exact hq pb' w1 a1 b1 he (b3.both (keptF_ok hf hd1 he.keeps kp)) hn1 hd1

theorem cutK_sound {n : Nat} {c : Code} {f : Fr} {σ : Sig} {ct : Cut} {run : (R : Type) → (Ex → Fr → Sig → Option R) → Option R} (hr : RunOk P n c f σ run) {k : Ex → Fr → Sig → Option R} {r : R}
    (h : cutK ct σ.length (keptF c f) run k = some r) : ∃ e f' σ', k e f' σ' = some r ∧ CodeOk P n c f σ e f' σ' := by
  unfold cutK at h
  split at h
  · rename_i outs
    obtain ⟨t, h1, h2⟩ := andK_some h
    obtain ⟨e, f1, σ1, h3, h4⟩ := hr _ _ _ h1
    obtain ⟨A, x, h5, h6⟩ := decO_ok h3 k r h2
    exact ⟨e, _, _, h5, h4.turn h6⟩
  · exact hr _ _ _ h

/-- What a frame keeps that code does not write: it holds as long as the code runs. -/
def Free (c : Code) (kf : Fr) : Prop := ∀ t, Fr.get kf t = .dead ∨ (freeV (Fr.get kf t) = true ∧ unwB t c = true)
theorem Free.move {c : Code} {kf : Fr} (h : Free c kf) {σ σ' : Sig} {pb pb' : Pb} {w w' : World} {a a' : Act} (hf : FR σ pb w kf a.tmps) (hk : KpC c a a') (k : Keeps pb w pb' w') : FR σ' pb' w' kf a'.tmps := by
  intro t
  rcases h t with e | ⟨e1, e2⟩
  · rw [e]; exact trivial
  · rw [hk.2 t e2]; exact freeV_move k e1 (hf t)
theorem loopF_sound {n n0 : Nat} {c : Code} {outs : List Alt} {hd : Alt} {kf : Fr} {kfo : List Nat → Fr} (hfree : Free c kf) {body : Nat → Fr → Sig → (Ex → Fr → Sig → Option (densO outs)) → Option (densO outs)}
    (hb : ∀ N f σ k r, body N f σ k = some r → ∃ e f' σ', k e f' σ' = some r ∧ CodeOk P n c f σ e f' σ') :
    ∀ (N : Nat) (s : hd.den) (t : densO outs), loopF outs hd n0 kf body N s = some t → n0 ≤ hd.qk.length → ∀ (k : Ex → Fr → Sig → Option R) (r : R), encO kfo outs t k = some r →
    ∃ e, ∃ (A : Alt) (x : A.den), k e (zipF A.ts (encAs (resI A.qk) A.ks x.1) ++ kfo A.kp) (encPs (resI A.qk) 0 A.qk x.2) = some r ∧ ∀ base pb w (a : Act), St base (encPs (resI hd.qk) 0 hd.qk s.2) pb w → FR (encPs (resI hd.qk) 0 hd.qk s.2) pb w (zipF hd.ts (encAs (resI hd.qk) hd.ks s.1)) a.tmps →
      FR (encPs (resI hd.qk) 0 hd.qk s.2) pb w kf a.tmps → a.tmps.size = n → ∀ Q,
      (∀ pb' w' (a' : Act), St base (encPs (resI A.qk) 0 A.qk x.2) pb' w' → ExtN n0 (encPs (resI hd.qk) 0 hd.qk s.2) pb w (encPs (resI A.qk) 0 A.qk x.2) pb' w' → FR (encPs (resI A.qk) 0 A.qk x.2) pb' w' (zipF A.ts (encAs (resI A.qk) A.ks x.1)) a'.tmps → a'.tmps.size = n → KpC c a a' → Q (exOf e) a' w') → Code.rounds P c Q N a w := by
  intro N
  induction N with
  | zero => intro s t h; cases h
  | succ N ih =>
    intro s t h hn0 k r hk
    have hl : (encPs (resI hd.qk) 0 hd.qk s.2).length = hd.qk.length := encPs_len
    unfold loopF at h
    obtain ⟨e, f1, σ1, h1, hcode⟩ := hb _ _ _ _ _ h
    have out : ∀ (e : Ex), CodeOk P n c (zipF hd.ts (encAs (resI hd.qk) hd.ks s.1) ++ kf) (encPs (resI hd.qk) 0 hd.qk s.2) e f1 σ1 → decO n0 outs e f1 σ1 = some t → (∀ Q : Exit → Act → World → Prop, ∀ N, Exit.then (Code.rounds P c Q N) Q (exOf e) = Q (exOf e)) →
        ∃ e, ∃ (A : Alt) (x : A.den), k e (zipF A.ts (encAs (resI A.qk) A.ks x.1) ++ kfo A.kp) (encPs (resI A.qk) 0 A.qk x.2) = some r ∧ ∀ base pb w (a : Act), St base (encPs (resI hd.qk) 0 hd.qk s.2) pb w → FR (encPs (resI hd.qk) 0 hd.qk s.2) pb w (zipF hd.ts (encAs (resI hd.qk) hd.ks s.1)) a.tmps →
          FR (encPs (resI hd.qk) 0 hd.qk s.2) pb w kf a.tmps → a.tmps.size = n → ∀ Q,
          (∀ pb' w' (a' : Act), St base (encPs (resI A.qk) 0 A.qk x.2) pb' w' → ExtN n0 (encPs (resI hd.qk) 0 hd.qk s.2) pb w (encPs (resI A.qk) 0 A.qk x.2) pb' w' → FR (encPs (resI A.qk) 0 A.qk x.2) pb' w' (zipF A.ts (encAs (resI A.qk) A.ks x.1)) a'.tmps → a'.tmps.size = n → KpC c a a' → Q (exOf e) a' w') → Code.rounds P c Q (N + 1) a w := by
      intro e hcode h1 hthen
      obtain ⟨A, x, h5, h6⟩ := decO_ok (kf := kfo) h1 k r hk
      refine ⟨e, A, x, h5, fun base pb w a hs hf hkf hn Q hq => ?_⟩
      refine hcode base pb w a hs (hf.both hkf) hn _ fun pb1 w1 a1 hs1 he1 hf1 hn1 hd1 => ?_
      obtain ⟨pb2, b1, b2, b3⟩ := h6 base pb1 w1 a1.tmps (by have := he1.len; rw [hl] at this; omega) hs1 hf1
      rw [hthen]
      exact hq pb2 w1 a1 b1 (ExtN.trans (he1.less (by rw [hl]; exact hn0)) b2) b3 hn1 hd1
    cases e with
    | normal =>
      simp only at h1
      split at h1
      · rename_i s' hs'
        obtain ⟨e, A, x, h3, hl'⟩ := ih s' t h1 hn0 k r hk
        refine ⟨e, A, x, h3, fun base pb w a hs hf hkf hn Q hq => ?_⟩
        refine hcode base pb w a hs (hf.both hkf) hn _ fun pb1 w1 a1 hs1 he1 hf1 hn1 hd1 => ?_
        obtain ⟨pb2, b1, b2, b3⟩ := decAlt_ok (base := base) hs' pb1 w1 a1.tmps (by have := he1.len; rw [hl] at this; omega) hs1 hf1
        have he2 := ExtN.trans (he1.less (by rw [hl]; exact hn0)) b2
        refine hl' base pb2 w1 a1 b1 b3 (hfree.move hkf hd1 he2.keeps) hn1 Q fun pb' w' a' hs' he' hf' hn' hd' => ?_
        exact hq pb' w' a' hs' (ExtN.trans he2 he') hf' hn' (hd1.trans hd')
      · cases h1
    | exit id => exact out (.exit id) hcode h1 (fun Q N => rfl)
    | ret => exact out .ret hcode h1 (fun Q N => rfl)

theorem iterK_sound (n : Nat) (c : Code) {body : Fr → Sig → (Ex → Fr → Sig → Option R) → Option R}
    (hb : ∀ f σ k r, body f σ k = some r → ∃ e f' σ', k e f' σ' = some r ∧ CodeOk P n c f σ e f' σ') :
    ∀ (N : Nat) (f : Fr) (σ : Sig) (k : Ex → Fr → Sig → Option R) (r : R), iterK body N f σ k = some r →
    ∃ e f' σ', k e f' σ' = some r ∧ e ≠ .normal ∧ ∀ base pb w (a : Act), St base σ pb w → FR σ pb w f a.tmps → a.tmps.size = n → ∀ Q,
      (∀ pb' w' (a' : Act), St base σ' pb' w' → ExtW σ pb w σ' pb' w' → FR σ' pb' w' f' a'.tmps → a'.tmps.size = n → KpC c a a' → Q (exOf e) a' w') → Code.rounds P c Q N a w := by
  intro N
  induction N with
  | zero => intro f σ k r h; cases h
  | succ N ih =>
    intro f σ k r h
    unfold iterK at h
    obtain ⟨e, f1, σ1, h1, hcode⟩ := hb _ _ _ _ h
    cases e with
    | normal =>
      obtain ⟨e, f', σ', h3, hne, hl⟩ := ih _ _ _ _ h1
      refine ⟨e, f', σ', h3, hne, fun base pb w a hs hf hn Q hq => ?_⟩
      refine hcode base pb w a hs hf hn _ fun pb1 w1 a1 hs1 he1 hf1 hn1 hd1 => ?_
      refine hl base pb1 w1 a1 hs1 hf1 hn1 Q fun pb' w' a' hs' he' hf' hn' hd' => ?_
      exact hq pb' w' a' hs' (ExtW.trans he1 he') hf' hn' (hd1.trans hd')
    | exit id =>
      refine ⟨.exit id, f1, σ1, h1, (by simp), fun base pb w a hs hf hn Q hq => ?_⟩
      exact hcode base pb w a hs hf hn _ fun pb' w' a' hs' he' hf' hn' hd' => hq pb' w' a' hs' he' hf' hn' hd'
    | ret =>
      refine ⟨.ret, f1, σ1, h1, (by simp), fun base pb w a hs hf hn Q hq => ?_⟩
      exact hcode base pb w a hs hf hn _ fun pb' w' a' hs' he' hf' hn' hd' => hq pb' w' a' hs' he' hf' hn' hd'

theorem KpC.left {x : Code} (y : Code) {a a' : Act} (h : KpC x a a') : KpC (.seq x y) a a' := ⟨h.1, fun t ht => h.2 t (by simp only [unwB, Bool.and_eq_true] at ht; exact ht.1)⟩
theorem KpC.right {y : Code} (x : Code) {a a' : Act} (h : KpC y a a') : KpC (.seq x y) a a' := ⟨h.1, fun t ht => h.2 t (by simp only [unwB, Bool.and_eq_true] at ht; exact ht.2)⟩
theorem KpC.thn {x : Code} (c : Operand) (y : Code) {a a' : Act} (h : KpC x a a') : KpC (.cond c x y) a a' := ⟨h.1, fun t ht => h.2 t (by simp only [unwB, Bool.and_eq_true] at ht; exact ht.1)⟩
theorem KpC.els {y : Code} (c : Operand) (x : Code) {a a' : Act} (h : KpC y a a') : KpC (.cond c x y) a a' := ⟨h.1, fun t ht => h.2 t (by simp only [unwB, Bool.and_eq_true] at ht; exact ht.2)⟩

theorem runK_sound (hc : ∀ N, CallOk P (call N)) (hq : ∀ N, QuietOk P (call N) (qt N)) (hm : P.follows .mixedOrders = true) (n : Nat) : ∀ (c : Code) (N : Nat) (f : Fr) (σ : Sig), okCode n c = true →
    RunOk P n c f σ (fun R k => runK P call qt H c N R f σ k) := by
  intro c
  induction c with
  | skip =>
    intro N f σ _ R k r h
    exact ⟨.normal, f, σ, h, fun base pb w a hs hf hn Q hq => wp_skip (hq pb w a hs (ExtW.refl _ _ _) hf hn (KpC.refl _ _))⟩
  | region id ops draw =>
    intro N f σ hk R k r h
    refine cutK_sound (fun R k r h => ?_) h
    cases draw with
    | true =>
      obtain ⟨p, cs, s, F, f', h1, h2, c, h3, h4⟩ := opsD_sound (hq N) _ _ _ _ _ _ _ (fun _ => rfl) h
      obtain ⟨h5, h6⟩ := chk_some h1
      refine ⟨.normal, f', _, h6, fun base pb w a hs hf hn Q hq' => ?_⟩
      have := draw_sound (id := id) hm (by simpa using h3) h4 h2 (by simpa using h5) hk (fun _ => rfl) hs hf hn (fun pb' w' a' h1 h2 h3 h4 h5 => hq' pb' w' a' h1 h2.weak h3 h4 ⟨h5.1, fun t ht => h5.2 t ht⟩)
      simpa using this
    | false =>
      obtain ⟨f', σ', h1, hl⟩ := opsK_sound (hc N) n _ _ _ _ _ _ h hk
      refine ⟨.normal, f', σ', h1, fun base pb w a hs hf hn Q hq => wp_region_list ?_⟩
      simpa using hl base pb w a hs hf hn Q (fun pb' w' a' h1 h2 h3 h4 h5 => hq pb' w' a' h1 h2.weak h3 h4 ⟨h5.1, fun t ht => h5.2 t ht⟩)
  | seq a b iha ihb =>
    intro N f σ hk R k r h
    simp only [okCode, Bool.and_eq_true] at hk
    obtain ⟨e, f1, σ1, h1, hca⟩ := cutK_sound (iha N f σ hk.1) h
    cases e with
    | normal =>
      obtain ⟨e, f', σ', h3, hcb⟩ := ihb N _ _ hk.2 _ _ _ h1
      refine ⟨e, f', σ', h3, fun base pb w a hs hf hn Q hq => wp_seq (hca base pb w a hs hf hn _ fun pb1 w1 a1 hs1 he1 hf1 hn1 hd1 => ?_)⟩
      refine hcb base pb1 w1 a1 hs1 hf1 hn1 Q fun pb' w' a' hs' he' hf' hn' hd' => ?_
      exact hq pb' w' a' hs' (ExtW.trans he1 he') hf' hn' (KpC.trans (hd1.left b) (hd'.right _))
    | exit id => exact ⟨.exit id, f1, σ1, h1, fun base pb w a hs hf hn Q hq => wp_seq (hca base pb w a hs hf hn _ fun pb' w' a' h1 h2 h3 h4 h5 => hq pb' w' a' h1 h2 h3 h4 (h5.left _))⟩
    | ret => exact ⟨.ret, f1, σ1, h1, fun base pb w a hs hf hn Q hq => wp_seq (hca base pb w a hs hf hn _ fun pb' w' a' h1 h2 h3 h4 h5 => hq pb' w' a' h1 h2 h3 h4 (h5.left _))⟩
  | cond c a b iha ihb =>
    intro N f σ hk R k r h
    simp only [okCode, Bool.and_eq_true] at hk
    simp only [runK] at h
    split at h
    · rename_i t ht
      have hev : ∀ {pb : Pb} {w : World} {a : Act}, FR σ pb w f a.tmps → a.eval c = .bool t := by
        intro pb w a hf
        have := ev_rel hf c
        rw [ht] at this
        exact this
      cases t with
      | true =>
        obtain ⟨e, f', σ', h1, hca⟩ := iha N f σ hk.1 _ _ _ h
        exact ⟨e, f', σ', h1, fun base pb w a hs hf hn Q hq => wp_cond_true (hev hf) (hca base pb w a hs hf hn Q fun pb' w' a' h1 h2 h3 h4 h5 => hq pb' w' a' h1 h2 h3 h4 (h5.thn _ _))⟩
      | false =>
        obtain ⟨e, f', σ', h1, hca⟩ := ihb N f σ hk.2 _ _ _ h
        exact ⟨e, f', σ', h1, fun base pb w a hs hf hn Q hq => wp_cond_false (hev hf) (hca base pb w a hs hf hn Q fun pb' w' a' h1 h2 h3 h4 h5 => hq pb' w' a' h1 h2 h3 h4 (h5.els _ _))⟩
    · cases h
  | block id a iha =>
    intro N f σ hk R k r h
    obtain ⟨e, f1, σ1, h1, hca⟩ := iha N f σ hk _ _ _ h
    cases e with
    | normal => exact ⟨.normal, f1, σ1, h1, fun base pb w a hs hf hn Q hq => wp_block (hca base pb w a hs hf hn _ hq)⟩
    | ret => exact ⟨.ret, f1, σ1, h1, fun base pb w a hs hf hn Q hq => wp_block (hca base pb w a hs hf hn _ hq)⟩
    | exit i =>
      by_cases e : i = id
      · subst e
        simp only [Nat.beq_refl, cond_true] at h1
        refine ⟨.normal, f1, σ1, h1, fun base pb w a hs hf hn Q hq => wp_block (hca base pb w a hs hf hn _ fun pb' w' a' hs' he' hf' hn' hd' => ?_)⟩
        show (if i = i then _ else _)
        rw [if_pos rfl]
        exact hq pb' w' a' hs' he' hf' hn' hd'
      · simp only [nbeq e, cond_false] at h1
        refine ⟨.exit i, f1, σ1, h1, fun base pb w a hs hf hn Q hq => wp_block (hca base pb w a hs hf hn _ fun pb' w' a' hs' he' hf' hn' hd' => ?_)⟩
        show (if i = id then _ else _)
        rw [if_neg e]
        exact hq pb' w' a' hs' he' hf' hn' hd'
  | loop a iha =>
    intro N f σ hk R k r h
    simp only [runK] at h
    split at h
    · rename_i hd outs _
      split at h
      · rename_i s hs'
        obtain ⟨t, h1, h2⟩ := andK_some h
        have hle : σ.length ≤ hd.qk.length := decAlt_qlen hs'
        obtain ⟨e, A, x, h3, hl⟩ := loopF_sound (n := n) (c := a) (kfo := keptF (.loop a) f) (fun t => keptF_free (c := .loop a) hd.kp t) (fun N f σ k r h => iha N f σ hk _ k r h) _ _ _ h1 hle k r h2
        refine ⟨e, _, _, h3, fun base pb w a' hs hf hn Q hq => ?_⟩
        obtain ⟨pb1, b1, b2, b3⟩ := decAlt_ok (base := base) hs' pb w a'.tmps (Nat.le_refl _) hs hf
        refine wp_loop_rounds N (hl base pb1 w a' b1 b3 (keptF_ok (c := .loop a) hf (KpC.refl _ _) b2.keeps hd.kp) hn Q fun pb' w' a'' hs' he' hf' hn' hd' => ?_)
        have he := ExtN.trans b2 he'
        exact hq pb' w' a'' hs' he (hf'.both (keptF_ok (c := .loop a) hf ⟨hd'.1, hd'.2⟩ he.keeps A.kp)) hn' ⟨hd'.1, hd'.2⟩
      · cases h
    · rename_i m _
      obtain ⟨e, f', σ', h2, _, hl⟩ := iterK_sound n a (fun f σ k r h => iha N f σ hk _ k r h) _ _ _ _ _ h
      exact ⟨e, f', σ', h2, fun base pb w a' hs hf hn Q hq => wp_loop_rounds m (hl base pb w a' hs hf hn Q fun pb' w' a'' h1 h2 h3 h4 h5 => hq pb' w' a'' h1 h2 h3 h4 ⟨h5.1, h5.2⟩)⟩
    · cases h
  | exit id =>
    intro N f σ _ R k r h
    exact ⟨.exit id, f, σ, h, fun base pb w a hs hf hn Q hq => wp_exit (hq pb w a hs (ExtW.refl _ _ _) hf hn (KpC.refl _ _))⟩
  | ret =>
    intro N f σ _ R k r h
    exact ⟨.ret, f, σ, h, fun base pb w a hs hf hn Q hq => wp_ret (hq pb w a hs (ExtW.refl _ _ _) hf hn (KpC.refl _ _))⟩
  | _ => intro N f σ _ R k r h; cases h

def resF (tmps : Array Value) : ResultVar → Sem Value
  | .tmp t => pure (tmps.getD t undef)
  | .cell a t => do loadVar t (← asAddr (tmps.getD a undef))
theorem results_eq (fn : Func) (tmps : Array Value) : results fn tmps = (do
    let vs ← fn.results.mapM (resF tmps)
    pure (if h : vs.size = 1 then vs[0] else .tuple vs)) := by
  unfold results
  congr 1
theorem getRes_sound {base : Nat} {σ : Sig} {pb : Pb} {w : World} {f : Fr} {tmps : Array Value} (hs : St base σ pb w) (hf : FR σ pb w f tmps) : ∀ (l : List ResultVar) (ps : List PV), getRes P f σ l = some ps →
    ∃ ys : List Value, (l.mapM (resF tmps)).run P w = Result.ok ys w ∧ VRs σ pb w ps ys := by
  intro l
  induction l with
  | nil => intro ps h; cases h; exact ⟨[], by simp, trivial⟩
  | cons x l ih =>
    intro ps h
    cases x with
    | tmp t =>
      unfold getRes at h
      cases hr : getRes P f σ l with
      | none => rw [hr] at h; cases h
      | some q =>
        rw [hr] at h
        cases h
        obtain ⟨ys, h1, h2⟩ := ih q hr
        refine ⟨tmps.getD t undef :: ys, ?_, hf t, h2⟩
        rw [List.mapM_cons, Sem.run_bind]
        show ((pure (tmps.getD t undef) : Sem Value).run P w).andThen _ = _
        rw [Sem.run_pure, Result.andThen_ok, Sem.run_bind, h1]
        rfl
    | cell a t =>
      unfold getRes at h
      split at h
      · rename_i q hq
        split at h
        · rename_i l' hr
          cases h
          obtain ⟨ys, h1, h2⟩ := ih _ hr
          obtain ⟨z, hz, hv⟩ := load_at hq hs (hf a)
          refine ⟨z :: ys, ?_, hv, h2⟩
          have hz' : (resF tmps (.cell a t)).run P w = .ok z w := by
            show (do loadVar t (← asAddr (tmps.getD a undef)) : Sem Value).run P w = _
            unfold Instr.loadAt at hz
            generalize tmps.getD a undef = y at hz
            cases y with
            | pointer o => cases o with
              | some x => exact hz
              | none => simp [Instr.sureAddr, stuck, Sem.run] at hz
            | _ => simp [Instr.sureAddr, stuck, Sem.run] at hz
          rw [List.mapM_cons, Sem.run_bind, hz', Result.andThen_ok, Sem.run_bind, h1]
          rfl
        · cases h
      · cases h

theorem VRs.ars {σ : Sig} {pb : Pb} {w : World} : ∀ {ps : List PV} {ys : List Value}, VRs σ pb w ps ys → (∀ vs, .tup vs ∉ ps) → ARs σ pb w ps ys
  | [], [], _, _ => trivial
  | p :: ps, y :: ys, h, hn => ⟨by
      have := h.1
      cases p <;> first | exact this | exact absurd (List.mem_cons_self ..) (hn _), VRs.ars h.2 (fun vs hm => hn vs (List.mem_cons_of_mem _ hm))⟩
  | [], _ :: _, h, _ => h.elim
  | _ :: _, [], h, _ => h.elim

theorem FR.args {σ : Sig} {pb : Pb} {w : World} (n : Nat) : ∀ {ps : List PV} {ys : List Value} (m : Nat) (pre : List Value), VRs σ pb w ps ys → pre.length = m →
    ∀ t, VR σ pb w ((Fr.args m ps).get t) ((pre ++ ys ++ List.replicate n undef).toArray.getD t undef) := by
  intro ps
  induction ps with
  | nil => intro ys m pre h hm t; exact trivial
  | cons p ps ih =>
    intro ys m pre h hm t
    cases ys with
    | nil => exact h.elim
    | cons y ys =>
      simp only [Fr.args, Fr.get]
      by_cases e : m = t
      · subst e
        rw [show Nat.beq m m = true from Nat.beq_refl m]
        have : ((pre ++ y :: ys ++ List.replicate n undef).toArray.getD m undef) = y := by
          simp [Array.getD_eq_getD_getElem?, List.getElem?_append, ← hm]
        rw [this]
        exact h.1
      · rw [nbeq e]
        have := ih (m + 1) (pre ++ [y]) h.2 (by simp [hm]) t
        simpa using this

def packV : List Value → Value
  | [z] => z
  | ys => .tuple ys.toArray
/-- What a function does, its results still one by one. -/
def FnRes (P : Program) (g : FuncId) (args : List PV) (σ : Sig) (l : List PV) (σ' : Sig) : Prop :=
  ∀ base pb w (vals : List Value), St base σ pb w → VRs σ pb w args vals → Calls P g vals.toArray w fun e w' => ∃ pb' y ys, e = .returned y ∧ St base σ' pb' w' ∧ ExtW σ pb w σ' pb' w' ∧ VRs σ' pb' w' l ys ∧
    y = packV ys

theorem fnK_sound (hc : ∀ N, CallOk P (call N)) (hq : ∀ N, QuietOk P (call N) (qt N)) (hm : P.follows .mixedOrders = true) (N : Nat) {g : FuncId} {fn : Func} (hg : P.funcs[g]? = some fn) {c : Code} (hb : fn.body = some c) (hk : okCode fn.ntmps c = true) {args : List PV} (ha : args.length ≤ fn.ntmps)
    {σ : Sig} {k : List PV → Sig → Option R} {r : R} (h : fnK P call qt H N fn args σ k = some r) :
    ∃ l σ', k l σ' = some r ∧ FnRes P g args σ l σ' := by
  unfold fnK at h
  rw [hb] at h
  simp only at h
  obtain ⟨e, f', σ', h1, hcode⟩ := runK_sound (H := H) hc hq hm fn.ntmps c N _ _ hk _ _ _ h
  have fin : ∀ l, getRes P f' σ' fn.results.toList = some l → k l σ' = some r → (exOf e = .normal ∨ exOf e = .ret) → ∃ l σ', k l σ' = some r ∧ FnRes P g args σ l σ' := by
    intro l hl hkl hex
    refine ⟨_, _, hkl, fun base pb w vals hs hv => ?_⟩
    refine calls_of_wp hg hb ?_
    have hlen : args.length = vals.length := by
      clear hs hkl hl hcode h h1 ha
      induction args generalizing vals with
      | nil => cases vals with
        | nil => rfl
        | cons => exact hv.elim
      | cons p ps ih => cases vals with
        | nil => exact hv.elim
        | cons y ys => simp [ih _ hv.2]
    refine hcode base pb w _ hs (fun t => ?_) (by simp; omega) _ fun pb' w' a' hs' he' hf' hn' hd' => ?_
    · have := FR.args (fn.ntmps - vals.length) 0 [] hv rfl t
      rw [show (vals.toArray ++ Array.replicate (fn.ntmps - vals.toArray.size) undef) = ([] ++ vals ++ List.replicate (fn.ntmps - vals.length) undef).toArray by simp]
      exact this
    · obtain ⟨ys, hrun, hrel⟩ := getRes_sound (P := P) hs' hf' _ _ hl
      have hres : (results fn a'.tmps).run P w' = .ok (packV ys) w' := by
        rw [results_eq, Array.mapM_eq_mapM_toList]
        simp only [Sem.run_bind, Sem.run_map, hrun, Result.andThen_ok]
        match ys with
        | [] => rfl
        | [y] => simp [packV]
        | y :: z :: u => rfl
      rcases hex with e' | e' <;> rw [e'] <;> exact ⟨hd'.1, _, hres, pb', _, ys, rfl, hs', he', hrel, rfl⟩
  cases e with
  | exit id => cases h1
  | normal =>
    simp only at h1
    split at h1
    · rename_i l hl; exact fin l hl h1 (.inl rfl)
    · cases h1
  | ret =>
    simp only at h1
    split at h1
    · rename_i l hl; exact fin l hl h1 (.inr rfl)
    · cases h1

end Go.Proofs.YtcngjidojibleaaPM
