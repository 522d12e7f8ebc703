/- Single operations: full slices, copies. -/
import Derived.Test.YtcngjidojibleaaPmLem10
set_option linter.unusedVariables false
set_option linter.unusedSectionVars false
set_option linter.unusedSimpArgs false
namespace Go.Proofs.YtcngjidojibleaaPM
open Go Go.RowKit
variable [Foreign]

variable {P : Program} {base : Nat} {σ : Sig} {pb : Pb} {w : World}

theorem bounds3_run (len cap : Nat) (lo : Option Value) (kh km : IntKind) (a b m : Int) (hlo : LoIs lo 0 a) (h0 : 0 ≤ a) (h1 : a ≤ b) (h2 : b ≤ m) (h3 : m ≤ cap) :
    (Instr.sliceBounds true len cap lo (some (.int kh b)) (some (.int km m))).run P w = .ok (a.toNat, b.toNat, m.toNat) w := by
  unfold Instr.sliceBounds
  have hm : 0 ≤ m := by omega
  have hb : 0 ≤ b := by omega
  have hbm : b ≤ ((m.toNat : Nat) : Int) := by omega
  cases lo with
  | none => have hlo : a = 0 := hlo; subst hlo; simp [Instr.sliceBound, asIntOf, hm, h3, hb, hbm]; intro hx; exfalso; omega
  | some v =>
    obtain ⟨k, rfl⟩ := hlo
    have : a ≤ ((b.toNat : Nat) : Int) := by omega
    simp [Instr.sliceBound, asIntOf, hm, h3, hb, hbm, h0, this]
    rw [if_pos (by omega), if_pos (by omega)]
theorem slice3_run {t e : TypeId} {r : Sh} (hu : P.underlying t = some (.slice e)) (hel : elOk P e r = true) {a0 : Option Addr} {len cap : Nat} {lo hi mx : Option Value} {a b m : Int}
    (hb : (Instr.sliceBounds true len cap lo hi mx).run P w = .ok (a.toNat, b.toNat, m.toNat) w) :
    (Instr.sliceAt t (.slice a0 len cap) lo hi mx).run P w = .ok (.slice (if m.toNat = a.toNat then a0 else a0.map (·.add (a.toNat * r.n))) (b.toNat - a.toNat) (m.toNat - a.toNat)) w := by
  obtain ⟨e1, _, ti, hti⟩ := elOk_spec hel
  unfold Instr.sliceAt Instr.slice
  simp [und_run hu, hb, size_run hti, e1]
theorem slice3_ok {t : TypeId} {zf : Bool} {p : PV} {lo : Option PV} {hi mx : PV} {y : Value} {l : Option Value} {yh ym : Value} {tr : Tri} (h : oSlice3 P t zf p lo hi mx σ = some tr) (h1 : tr.ok = true) (hs : St base σ pb w) (hv : VR σ pb w p y)
    (hl : OptR σ pb w lo l) (hh : VR σ pb w hi yh) (hm : VR σ pb w mx ym) :
    SemOk P base σ pb w (Instr.sliceAt t y l (some yh) (some ym)) tr := by
  unfold oSlice3 at h
  split at h
  · rename_i e hu
    split at h
    · rename_i a b m ha hb hmx
      have hlo := low_rel ha hl
      obtain ⟨kh, rfl⟩ := asI_rel hb hh
      obtain ⟨km, rfl⟩ := asI_rel hmx hm
      split at h
      · -- nothing of it
        split at h
        · split at h
          · rename_i ti hi'
            cases h
            simp only [Bool.and_eq_true, decide_eq_true_eq] at h1
            obtain ⟨rfl, rfl, rfl⟩ := h1
            have hv : y = .slice none 0 0 := hv
            subst hv
            refine SemOk.stay hs (z := .slice none 0 0) ?_ rfl
            have hbd := bounds3_run (P := P) (w := w) 0 0 l kh km 0 0 0 hlo (by omega) (by omega) (by omega) (by omega)
            unfold Instr.sliceAt Instr.slice
            simp at hbd
            simp [und_run hu, hbd, sizeOf, typeInfo, hi']
          · cases h
        · split at h
          · rename_i r xs hrow
            split at h
            · rename_i hel
              cases h
              simp only [Bool.and_eq_true, decide_eq_true_eq] at h1
              obtain ⟨rfl, rfl, rfl⟩ := h1
              obtain ⟨a0, cap, ys, rfl, _⟩ := rowOf_read hrow hs hv
              have hbd := bounds3_run (P := P) (w := w) xs.length cap l kh km 0 0 0 hlo (by omega) (by omega) (by omega) (by omega)
              refine SemOk.stay hs (slice3_run hu hel hbd) ⟨a0, 0, by simp, by simp, fun _ => rfl, fun i hi => by simp at hi⟩
            · cases h
          · cases h
      · split at h
        · rename_i fl r xs
          split at h
          · rename_i hel
            cases h
            simp only [Bool.and_eq_true, decide_eq_true_eq] at h1
            obtain ⟨h0, hab, rfl, hle⟩ := h1
            obtain ⟨a0, cap, rfl, hc, _, hr⟩ := hv
            have hbd := bounds3_run (P := P) (w := w) xs.length cap l kh km a b b hlo h0 hab (Int.le_refl _) (by omega)
            have hcl : (cut xs a b).length = b.toNat - a.toNat := by simp [cut]; omega
            refine SemOk.stay hs (slice3_run hu hel hbd) ⟨_, b.toNat - a.toNat, by rw [hcl], by rw [hcl]; exact Nat.le_refl _, fun _ => by rw [hcl], fun q hq => ?_⟩
            rw [hcl] at hq
            rw [if_neg (by omega)]
            have := cut_rows h0 hab hle hc hr q (by rw [hcl]; exact hq)
            rwa [if_neg (by omega)] at this
          · cases h
        · rename_i k g
          split at h
          · rename_i r xs g' hk
            split at h
            · rename_i hc
              cases h
              simp only [Bool.and_eq_true, decide_eq_true_eq] at h1
              obtain ⟨h0, hab, rfl, hle⟩ := h1
              obtain ⟨hlt, hv⟩ := hv
              rcases (hv _ _ _ hk).2 hc.1.symm with ⟨bl, cap, hb', rfl, hcap, _⟩ | ⟨_, hx, a0, rfl⟩
              · have hbd := bounds3_run (P := P) (w := w) xs.length cap l kh km a b b hlo h0 hab (Int.le_refl _) (by omega)
                refine SemOk.stay hs (slice3_run hu hc.2 hbd) ⟨hlt, fun r' xs' g'' hk' => ?_⟩
                rw [hk] at hk'
                cases hk'
                refine ⟨by omega, fun _ => .inl ⟨bl, if b.toNat = a.toNat then 0 else a.toNat * r.n, b.toNat - a.toNat, hb', by omega, fun hp => if_neg (by omega), ?_, Nat.le_refl _⟩⟩
                split <;> simp [add_mk]
              · subst hx
                simp at hle
                have hbd := bounds3_run (P := P) (w := w) 0 0 l kh km a b b hlo h0 hab (Int.le_refl _) (by omega)
                refine SemOk.stay hs (slice3_run hu hc.2 hbd) ⟨hlt, fun r' xs' g'' hk' => ?_⟩
                rw [hk] at hk'
                cases hk'
                exact ⟨by omega, fun _ => .inr ⟨by omega, _, by rw [show b.toNat - a.toNat = 0 by omega]⟩⟩
            · cases h
          · cases h
        · cases h
    · cases h
  · cases h

/-! ### copies -/
theorem copy_run {ts : Array TypeId} {t e ty : TypeId} {ti : TypeInfo} (h0 : ts[0]? = some t) (ht : P.underlying t = some (.slice e)) (hi : P.info? e = some ti) {a1 : Option Addr} {m c : Nat} {ys : List Value}
    {a : Option Addr} {n cap : Nat} (hf : (Builtin.firstCells ti.size (Nat.min m n) (.slice a1 m c)).run P w = .ok ys.toArray w) {w' : World} (hs : ∀ x, a = some x → (storeCells x ys).run P w = .ok () w') (hn : a = none → w' = w) :
    (Builtin.copy_ ts ty #[.slice a n cap, .slice a1 m c]).run P w = .ok (.int .i64 (Nat.min m n : Nat)) w' := by
  cases a with
  | none =>
    have := hn rfl
    subst this
    simp [Builtin.copy_, h0, und_run ht, sizeOf, typeInfo, hi, Builtin.lenOf, hf, goInt]
  | some x =>
    have hs := hs x rfl
    simp [Builtin.copy_, h0, und_run ht, sizeOf, typeInfo, hi, Builtin.lenOf, hf, hs, goInt]

/-- Rows laid over rows, from an element on. -/
def overL {α : Type} (xs ys : List α) (i n : Nat) : List α := xs.take i ++ (ys.take n ++ xs.drop (i + n))
theorem over_len {α : Type} {xs ys : List α} {i n : Nat} (h1 : n ≤ ys.length) (h2 : i + n ≤ xs.length) : (overL xs ys i n).length = xs.length := by
  simp [overL]; omega
theorem over_get {α : Type} {xs ys : List α} {i n : Nat} (h1 : n ≤ ys.length) (h2 : i + n ≤ xs.length) {q : Nat} (hq : q < xs.length) : (overL xs ys i n)[q]? = if i ≤ q ∧ q < i + n then ys[q - i]? else xs[q]? := by
  unfold overL
  by_cases a : q < i
  · rw [if_neg (by omega), List.getElem?_append_left (by simp; omega), List.getElem?_take, if_pos a]
  · by_cases b : q < i + n
    · rw [if_pos (by omega), List.getElem?_append_right (by simp; omega), List.getElem?_append_left (by simp; omega)]
      rw [List.getElem?_take]
      simp
      rw [show min i xs.length = i by omega, if_pos (by omega)]
    · rw [if_neg (by omega), List.getElem?_append_right (by simp; omega), List.getElem?_append_right (by simp; omega)]
      rw [List.getElem?_drop]
      congr 1
      simp
      omega

theorem over_step {r : Sh} {k b i n : Nat} {xs ys : List r.den} {g : Nat} (hs : St base σ pb w) (hk : σ[k]? = some (.rows r xs g)) (hb : pb[k]? = some (some b)) {news : List Value} (hl : news.length = n * r.n)
    (hels : Els pb w r (ys.take n) news) (hny : n ≤ ys.length) (hnx : i + n ≤ xs.length) :
    ∃ w', (storeCells ⟨b, i * r.n, none⟩ news).run P w = .ok () w' ∧ St base (σ.set k (.rows r (overL xs ys i n) g)) pb w' ∧ Ext σ pb w (σ.set k (.rows r (overL xs ys i n) g)) pb w' := by
  obtain ⟨c, e, f, b1, b2, b3, b4⟩ := St.rows (hs := hs) hk hb
  have htl : (ys.take n).length = n := by simp; omega
  have hone : news.all oneB = true := by
    rw [List.all_eq_true]
    intro v hv
    obtain ⟨p, hp, rfl⟩ := List.getElem_of_mem hv
    rw [hl] at hp
    have hpos : 0 < r.n := by
      rcases Nat.eq_zero_or_pos r.n with h | h
      · rw [h] at hp; omega
      · exact h
    have hi' : p / r.n < n := by rw [Nat.div_lt_iff_lt_mul hpos]; exact hp
    obtain ⟨vs, q1, q2, q3⟩ := hels (p / r.n) (by rw [htl]; exact hi')
    have := q2 (p % r.n) (Nat.mod_lt _ hpos)
    rw [Nat.div_add_mod' p r.n, List.getElem?_eq_getElem (by rw [hl]; exact hp), List.getElem?_eq_getElem (by rw [q1]; exact Nat.mod_lt _ hpos)] at this
    injection this with this
    rw [this]
    exact ER.one q3 _ (List.getElem_mem _)
  have hroom : i * r.n + news.length ≤ c.size := by
    rw [hl, ← Nat.add_mul]
    exact Nat.le_trans (Nat.mul_le_mul_right _ hnx) b3
  obtain ⟨w', hrun, hupd⟩ := storeCells_run (P := P) b (i * r.n) news 0 w c e f b1 b2 (by omega) hone
  have hal : Alike (.rows r xs g) (.rows r (overL xs ys i n) g) := ⟨rfl, Nat.le_refl _, fun _ => (over_len hny hnx).symm⟩
  have he := hupd.ext hb hk hal hs.nf
  refine ⟨w', hrun, hupd.st hs hb hk hal ?_, he⟩
  obtain ⟨e3, f3, c1', c2'⟩ := hupd.at_
  rw [b1] at c1'
  cases c1'
  refine ⟨_, _, _, c2', by rw [hupd.sz]; exact b2, by rw [hupd.sz, over_len hny hnx]; exact b3, fun q hq => ?_⟩
  rw [over_len hny hnx] at hq
  have hget := over_get hny hnx hq
  by_cases hin : i ≤ q ∧ q < i + n
  · rw [if_pos hin] at hget
    obtain ⟨vs, q1, q2, q3⟩ := hels (q - i) (by rw [htl]; omega)
    refine ⟨vs, q1, fun j hj => ?_, ?_⟩
    · rw [← q2 j hj, ← Array.getElem?_toList, setL_arr, Nat.add_zero, setL_get _ _ _ _ (by simpa using hroom)]
      have e1 : q * r.n = i * r.n + (q - i) * r.n := by rw [← Nat.add_mul]; congr 1; omega
      have e2 : (q - i) * r.n + j < news.length := by
        rw [hl]
        have : (q - i + 1) * r.n ≤ n * r.n := Nat.mul_le_mul_right _ (by omega)
        rw [Nat.succ_mul] at this
        omega
      rw [if_pos (by omega)]
      congr 1
      omega
    · have : (overL xs ys i n)[q]'(by rw [over_len hny hnx]; exact hq) = (ys.take n)[q - i]'(by rw [htl]; omega) := by
        have h3 : (ys.take n)[q - i]? = ys[q - i]? := by rw [List.getElem?_take, if_pos (by omega)]
        rw [← h3, List.getElem?_eq_getElem (by rw [over_len hny hnx]; exact hq), List.getElem?_eq_getElem (by rw [htl]; omega)] at hget
        injection hget
      rw [this]
      exact q3.mono he.keeps
  · rw [if_neg hin] at hget
    obtain ⟨vs, q1, q2, q3⟩ := b4 q hq
    refine ⟨vs, q1, fun j hj => ?_, ?_⟩
    · rw [← q2 j hj, ← Array.getElem?_toList, setL_arr, Nat.add_zero, setL_get _ _ _ _ (by simpa using hroom)]
      rw [if_neg]
      · simp
      rintro ⟨h1, h2⟩
      rw [hl, ← Nat.add_mul] at h2
      rcases Nat.lt_or_ge q i with h | h
      · have : (q + 1) * r.n ≤ i * r.n := Nat.mul_le_mul_right _ h
        rw [Nat.succ_mul] at this
        omega
      · have : (i + n) * r.n ≤ q * r.n := Nat.mul_le_mul_right _ (by omega)
        omega
    · have : (overL xs ys i n)[q]'(by rw [over_len hny hnx]; exact hq) = xs[q] := by
        rw [List.getElem?_eq_getElem (by rw [over_len hny hnx]; exact hq), List.getElem?_eq_getElem hq] at hget
        injection hget
      rw [this]
      exact q3.mono he.keeps

theorem Els.take {r : Sh} {ys : List r.den} {l : List Value} (h : Els pb w r ys l) (n : Nat) : Els pb w r (ys.take n) (l.take (n * r.n)) := by
  intro i hi
  have hi' : i < ys.length := by simp at hi; omega
  have hin : i < n := by simp at hi; omega
  obtain ⟨vs, a1, a2, a3⟩ := h i hi'
  refine ⟨vs, a1, fun j hj => ?_, by simpa using a3⟩
  rw [← a2 j hj, List.getElem?_take, if_pos]
  have : (i + 1) * r.n ≤ n * r.n := Nat.mul_le_mul_right _ hin
  rw [Nat.succ_mul] at this
  omega

theorem copy_ok {ts : Array TypeId} {t ty : TypeId} (h0 : ts[0]? = some t) {p q : PV} {y z : Value} {tr : Tri} (h : oCopy P t p q σ = some tr) (hs : St base σ pb w) (hvp : VR σ pb w p y) (hvq : VR σ pb w q z) :
    SemOk P base σ pb w (Builtin.copy_ ts ty #[y, z]) tr := by
  unfold oCopy at h
  split at h
  · rename_i e ht
    split at h
    · rename_i r ys hrow
      split at h
      · rename_i hel
        obtain ⟨esz, hrn, ti, hti⟩ := elOk_spec hel
        have hisz : ti.size = r.n := by rw [← esz]; unfold szOf; rw [hti]
        obtain ⟨a1, c1, news, rfl, hread⟩ := rowOf_read hrow hs hvq
        obtain ⟨hl1, hc1, hel1⟩ := hread
        have first : ∀ n, n ≤ ys.length → (Builtin.firstCells ti.size n (.slice a1 ys.length c1)).run P w = .ok (news.take (n * r.n)).toArray w := by
          intro n hn
          refine first_run (by rw [hisz, List.length_take, hl1, Nat.min_eq_left (Nat.mul_le_mul_right _ hn)]) fun p v hp => ?_
          rw [List.getElem?_take] at hp
          split at hp
          · exact hc1 p v hp
          · cases hp
        have lens : ∀ n, n ≤ ys.length → (news.take (n * r.n)).length = n * r.n := by
          intro n hn
          rw [List.length_take, hl1, Nat.min_eq_left (Nat.mul_le_mul_right _ hn)]
        split at h
        · rename_i k g
          split at h
          · rename_i r' xs g' hk
            split at h
            · rename_i er
              subst er
              split at h
              · rename_i hg
                subst hg
                cases h
                obtain ⟨hlt, hv⟩ := hvp
                have hover : ys.take (min ys.length xs.length) ++ xs.drop (min ys.length xs.length) = overL xs ys 0 (min ys.length xs.length) := by simp [overL]
                simp only
                rw [hover]
                rcases (hv _ _ _ hk).2 rfl with ⟨b, cap, hb, rfl, hcap, hblk⟩ | ⟨hpb, hx, a, rfl⟩
                · obtain ⟨w', s1, s2, s3⟩ := over_step (P := P) hs hk hb (i := 0) (n := min ys.length xs.length) (ys := ys) (lens _ (Nat.min_le_left _ _)) (Els.take hel1 _) (Nat.min_le_left _ _) (by have := Nat.min_le_right ys.length xs.length; omega)
                  refine ⟨pb, w', _, copy_run (ty := ty) h0 ht hti (first _ (Nat.min_le_left _ _)) (fun x hx => ?_) (fun hx => by cases hx), s2, s3, rfl⟩
                  cases hx
                  simpa using s1
                · subst hx
                  have hov : overL ([] : List r'.den) ys 0 (min ys.length ([] : List r'.den).length) = [] := by simp [overL]
                  rw [hov]
                  have hset : σ.set k (.rows r' [] g') = σ := by
                    apply List.ext_getElem?
                    intro i
                    by_cases q : k = i
                    · subst q; rw [List.getElem?_set_self (by exact hlt), hk]
                    · rw [List.getElem?_set_ne q]
                  rw [hset]
                  refine SemOk.stay hs (z := .int .i64 (Nat.min ys.length 0 : Nat)) ?_ (by simp [intV]; rfl)
                  refine copy_run (ty := ty) (ys := []) h0 ht hti ?_ (fun x hx => rfl) (fun _ => rfl)
                  have := first 0 (Nat.zero_le _)
                  simpa using this
              · cases h
            · cases h
          · cases h
        · rename_i k i n g
          split at h
          · rename_i r' xs g' hk
            split at h
            · rename_i er
              subst er
              split at h
              · rename_i hg
                subst hg
                cases h
                obtain ⟨hlt, hv⟩ := hvp
                have hover : xs.take i ++ (ys.take (min ys.length n) ++ xs.drop (i + min ys.length n)) = overL xs ys i (min ys.length n) := rfl
                simp only
                rw [hover]
                rcases (hv _ _ _ hk).2 rfl with ⟨b, o, cap, hb, hle, ho, rfl, hcap⟩ | ⟨hx, a, rfl⟩
                · obtain ⟨w', s1, s2, s3⟩ := over_step (P := P) hs hk hb (i := i) (n := min ys.length n) (ys := ys) (lens _ (Nat.min_le_left _ _)) (Els.take hel1 _) (Nat.min_le_left _ _) (by have := Nat.min_le_right ys.length n; omega)
                  refine ⟨pb, w', _, copy_run (ty := ty) h0 ht hti (first _ (Nat.min_le_left _ _)) (fun x hx => ?_) (fun hx => by cases hx), s2, s3, rfl⟩
                  cases hx
                  by_cases hz : n = 0
                  · subst hz
                    have e0 : news.take (min ys.length 0 * r'.n) = [] := by simp
                    have : (news.take (Nat.min ys.length 0 * r'.n)) = [] := by simp
                    rw [e0] at s1
                    rw [show w' = w by
                      have : (storeCells (⟨b, i * r'.n, none⟩ : Addr) []).run P w = .ok () w := rfl
                      rw [this] at s1
                      cases s1
                      rfl]
                    simp
                    rfl
                  · rw [ho (by omega)]
                    exact s1
                · subst hx
                  have hov : overL xs ys i (min ys.length 0) = xs := by simp [overL]
                  rw [hov]
                  have hset : σ.set k (.rows r' xs g') = σ := by
                    apply List.ext_getElem?
                    intro j
                    by_cases q : k = j
                    · subst q; rw [List.getElem?_set_self (by exact hlt), hk]
                    · rw [List.getElem?_set_ne q]
                  rw [hset]
                  refine SemOk.stay hs (z := .int .i64 (Nat.min ys.length 0 : Nat)) ?_ (by simp [intV]; rfl)
                  refine copy_run (ty := ty) (ys := []) h0 ht hti ?_ (fun x hx => rfl) (fun _ => rfl)
                  have := first 0 (Nat.zero_le _)
                  simpa using this
              · cases h
            · cases h
          · cases h
        · cases h
      · cases h
    · cases h
  · cases h

end Go.Proofs.YtcngjidojibleaaPM
