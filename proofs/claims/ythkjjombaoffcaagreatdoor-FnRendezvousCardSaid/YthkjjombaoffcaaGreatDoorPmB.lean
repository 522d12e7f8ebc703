/- A reckoning of functions by values, and that it is right (Lem11, Look, Pat, Run, Ops, Alt, Sound, Draw, Draw2, Late). -/
import Derived.Test.YthkjjombaoffcaaGreatDoorPmA
import Derived.Maps.OwnOps
import Derived.Maps.Views
import Derived.LoopN
import Derived.Orders
/- Single operations: full slices, copies. -/
set_option linter.unusedVariables false
set_option linter.unusedSectionVars false
set_option linter.unusedSimpArgs false
noncomputable section
namespace Go.Proofs.YthkjjombaoffcaaGreatDoorPM
open Go Go.RowKit
variable [Foreign]

variable {P : Program} {base : Nat} {σ : Sig} {pb : Pb} {w : World}

theorem bounds3_run (len cap : Nat) (lo : Option Value) (kh km : IntKind) (a b m : Int) (hlo : LoIs lo 0 a) (h0 : 0 ≤ a) (h1 : a ≤ b) (h2 : b ≤ m) (h3 : m ≤ cap) :
    (Instr.sliceBounds true len cap lo (some (.int kh b)) (some (.int km m))).run P w = .ok (a.toNat, b.toNat, m.toNat) w := by
  unfold Instr.sliceBounds
  have hm : 0 ≤ m := by omega
  have hb : 0 ≤ b := by omega
  have hbm : b ≤ ((m.toNat : Nat) : Int) := by omega
  cases lo with
  | none => have hlo : a = 0 := hlo; subst hlo; simp [Instr.sliceBound, asIntOf, hm, h3, hb, hbm]; intro hx; exfalso; omega
  | some v =>
    obtain ⟨k, rfl⟩ := hlo
    have : a ≤ ((b.toNat : Nat) : Int) := by omega
    simp [Instr.sliceBound, asIntOf, hm, h3, hb, hbm, h0, this]
    rw [if_pos (by omega), if_pos (by omega)]
theorem slice3_run {t e : TypeId} {r : Sh} (hu : P.underlying t = some (.slice e)) (hel : elOk P e r = true) {a0 : Option Addr} {len cap : Nat} {lo hi mx : Option Value} {a b m : Int}
    (hb : (Instr.sliceBounds true len cap lo hi mx).run P w = .ok (a.toNat, b.toNat, m.toNat) w) :
    (Instr.sliceAt t (.slice a0 len cap) lo hi mx).run P w = .ok (.slice (if m.toNat = a.toNat then a0 else a0.map (·.add (a.toNat * r.n))) (b.toNat - a.toNat) (m.toNat - a.toNat)) w := by
  obtain ⟨e1, _, ti, hti⟩ := elOk_spec hel
  unfold Instr.sliceAt Instr.slice
  simp [und_run hu, hb, size_run hti, e1]
theorem slice3_ok {t : TypeId} {zf : Bool} {p : PV} {lo : Option PV} {hi mx : PV} {y : Value} {l : Option Value} {yh ym : Value} {tr : Tri} (h : oSlice3 P t zf p lo hi mx σ = some tr) (h1 : tr.ok = true) (hs : St base σ pb w) (hv : VR σ pb w p y)
    (hl : OptR σ pb w lo l) (hh : VR σ pb w hi yh) (hm : VR σ pb w mx ym) :
    SemOk P base σ pb w (Instr.sliceAt t y l (some yh) (some ym)) tr := by
  unfold oSlice3 at h
  split at h
  · rename_i e hu
    split at h
    · rename_i a b m ha hb hmx
      have hlo := low_rel ha hl
      obtain ⟨kh, rfl⟩ := asI_rel hb hh
      obtain ⟨km, rfl⟩ := asI_rel hmx hm
      split at h
      · -- nothing of it
        split at h
        · split at h
          · rename_i ti hi'
            cases h
            simp only [Bool.and_eq_true, decide_eq_true_eq] at h1
            obtain ⟨rfl, rfl, rfl⟩ := h1
            have hv : y = .slice none 0 0 := hv
            subst hv
            refine SemOk.stay hs (z := .slice none 0 0) ?_ rfl
            have hbd := bounds3_run (P := P) (w := w) 0 0 l kh km 0 0 0 hlo (by omega) (by omega) (by omega) (by omega)
            unfold Instr.sliceAt Instr.slice
            simp at hbd
            simp [und_run hu, hbd, sizeOf, typeInfo, hi']
          · cases h
        · split at h
          · rename_i r xs hrow
            split at h
            · rename_i hel
              cases h
              simp only [Bool.and_eq_true, decide_eq_true_eq] at h1
              obtain ⟨rfl, rfl, rfl⟩ := h1
              obtain ⟨a0, cap, ys, rfl, _⟩ := rowOf_read hrow hs hv
              have hbd := bounds3_run (P := P) (w := w) xs.length cap l kh km 0 0 0 hlo (by omega) (by omega) (by omega) (by omega)
              refine SemOk.stay hs (slice3_run hu hel hbd) ⟨a0, 0, by simp, by simp, fun _ => rfl, fun i hi => by simp at hi⟩
            · cases h
          · cases h
      · split at h
        · rename_i fl r xs
          split at h
          · rename_i hel
            cases h
            simp only [Bool.and_eq_true, decide_eq_true_eq] at h1
            obtain ⟨h0, hab, rfl, hle⟩ := h1
            obtain ⟨a0, cap, rfl, hc, _, hr⟩ := hv
            have hbd := bounds3_run (P := P) (w := w) xs.length cap l kh km a b b hlo h0 hab (Int.le_refl _) (by omega)
            have hcl : (cut xs a b).length = b.toNat - a.toNat := by simp [cut]; omega
            refine SemOk.stay hs (slice3_run hu hel hbd) ⟨_, b.toNat - a.toNat, by rw [hcl], by rw [hcl]; exact Nat.le_refl _, fun _ => by rw [hcl], fun q hq => ?_⟩
            rw [hcl] at hq
            rw [if_neg (by omega)]
            have := cut_rows h0 hab hle hc hr q (by rw [hcl]; exact hq)
            rwa [if_neg (by omega)] at this
          · cases h
        · rename_i k g
          split at h
          · rename_i r xs g' hk
            split at h
            · rename_i hc
              cases h
              simp only [Bool.and_eq_true, decide_eq_true_eq] at h1
              obtain ⟨h0, hab, rfl, hle⟩ := h1
              obtain ⟨hlt, hv⟩ := hv
              rcases (hv _ _ _ hk).2 hc.1.symm with ⟨bl, cap, hb', rfl, hcap, _⟩ | ⟨_, hx, a0, rfl⟩
              · have hbd := bounds3_run (P := P) (w := w) xs.length cap l kh km a b b hlo h0 hab (Int.le_refl _) (by omega)
                refine SemOk.stay hs (slice3_run hu hc.2 hbd) ⟨hlt, fun r' xs' g'' hk' => ?_⟩
                rw [hk] at hk'
                cases hk'
                refine ⟨by omega, fun _ => .inl ⟨bl, if b.toNat = a.toNat then 0 else a.toNat * r.n, b.toNat - a.toNat, hb', by omega, fun hp => if_neg (by omega), ?_, Nat.le_refl _⟩⟩
                split <;> simp [add_mk]
              · subst hx
                simp at hle
                have hbd := bounds3_run (P := P) (w := w) 0 0 l kh km a b b hlo h0 hab (Int.le_refl _) (by omega)
                refine SemOk.stay hs (slice3_run hu hc.2 hbd) ⟨hlt, fun r' xs' g'' hk' => ?_⟩
                rw [hk] at hk'
                cases hk'
                exact ⟨by omega, fun _ => .inr ⟨by omega, _, by rw [show b.toNat - a.toNat = 0 by omega]⟩⟩
            · cases h
          · cases h
        · cases h
    · cases h
  · cases h

/-! ### copies -/
theorem copy_run {ts : Array TypeId} {t e ty : TypeId} {ti : TypeInfo} (h0 : ts[0]? = some t) (ht : P.underlying t = some (.slice e)) (hi : P.info? e = some ti) {z : Value} {m : Nat} {ys : List Value} (hz : (Builtin.lenOf z).run P w = .ok m w)
    {a : Option Addr} {n cap : Nat} (hf : (Builtin.firstCells ti.size (Nat.min m n) z).run P w = .ok ys.toArray w) {w' : World} (hs : ∀ x, a = some x → (storeCells x ys).run P w = .ok () w') (hn : a = none → w' = w) :
    (Builtin.copy_ ts ty #[.slice a n cap, z]).run P w = .ok (.int .i64 (Nat.min m n : Nat)) w' := by
  cases a with
  | none =>
    have := hn rfl
    subst this
    simp [Builtin.copy_, h0, und_run ht, sizeOf, typeInfo, hi, hz, hf, goInt]
  | some x =>
    have hs := hs x rfl
    simp [Builtin.copy_, h0, und_run ht, sizeOf, typeInfo, hi, hz, hf, hs, goInt]

/-- Rows laid over rows, from an element on. -/
def overL {α : Type} (xs ys : List α) (i n : Nat) : List α := xs.take i ++ (ys.take n ++ xs.drop (i + n))
theorem over_len {α : Type} {xs ys : List α} {i n : Nat} (h1 : n ≤ ys.length) (h2 : i + n ≤ xs.length) : (overL xs ys i n).length = xs.length := by
  simp [overL]; omega
theorem over_get {α : Type} {xs ys : List α} {i n : Nat} (h1 : n ≤ ys.length) (h2 : i + n ≤ xs.length) {q : Nat} (hq : q < xs.length) : (overL xs ys i n)[q]? = if i ≤ q ∧ q < i + n then ys[q - i]? else xs[q]? := by
  unfold overL
  by_cases a : q < i
  · rw [if_neg (by omega), List.getElem?_append_left (by simp; omega), List.getElem?_take, if_pos a]
  · by_cases b : q < i + n
    · rw [if_pos (by omega), List.getElem?_append_right (by simp; omega), List.getElem?_append_left (by simp; omega)]
      rw [List.getElem?_take]
      simp
      rw [show min i xs.length = i by omega, if_pos (by omega)]
    · rw [if_neg (by omega), List.getElem?_append_right (by simp; omega), List.getElem?_append_right (by simp; omega)]
      rw [List.getElem?_drop]
      congr 1
      simp
      omega

theorem over_step {r : Sh} {k b i n : Nat} {xs ys : List r.den} {g : Nat} (hs : St base σ pb w) (hk : σ[k]? = some (.rows r xs g)) (hb : pb[k]? = some (some b)) {news : List Value} (hl : news.length = n * r.n)
    (hels : Els pb w r (ys.take n) news) (hny : n ≤ ys.length) (hnx : i + n ≤ xs.length) :
    ∃ w', (storeCells ⟨b, i * r.n, none⟩ news).run P w = .ok () w' ∧ St base (σ.set k (.rows r (overL xs ys i n) g)) pb w' ∧ Ext σ pb w (σ.set k (.rows r (overL xs ys i n) g)) pb w' := by
  obtain ⟨c, e, f, b1, b2, b3, b4⟩ := St.rows (hs := hs) hk hb
  have htl : (ys.take n).length = n := by simp; omega
  have hone : news.all oneB = true := by
    rw [List.all_eq_true]
    intro v hv
    obtain ⟨p, hp, rfl⟩ := List.getElem_of_mem hv
    rw [hl] at hp
    have hpos : 0 < r.n := by
      rcases Nat.eq_zero_or_pos r.n with h | h
      · rw [h] at hp; omega
      · exact h
    have hi' : p / r.n < n := by rw [Nat.div_lt_iff_lt_mul hpos]; exact hp
    obtain ⟨vs, q1, q2, q3⟩ := hels (p / r.n) (by rw [htl]; exact hi')
    have := q2 (p % r.n) (Nat.mod_lt _ hpos)
    rw [Nat.div_add_mod' p r.n, List.getElem?_eq_getElem (by rw [hl]; exact hp), List.getElem?_eq_getElem (by rw [q1]; exact Nat.mod_lt _ hpos)] at this
    injection this with this
    rw [this]
    exact ER.one q3 _ (List.getElem_mem _)
  have hroom : i * r.n + news.length ≤ c.size := by
    rw [hl, ← Nat.add_mul]
    exact Nat.le_trans (Nat.mul_le_mul_right _ hnx) b3
  obtain ⟨w', hrun, hupd⟩ := storeCells_run (P := P) b (i * r.n) news 0 w c e f b1 b2 (by omega) hone
  have hal : Alike (.rows r xs g) (.rows r (overL xs ys i n) g) := ⟨rfl, Nat.le_refl _, fun _ => (over_len hny hnx).symm⟩
  have he := hupd.ext hb hk hal hs.nf
  refine ⟨w', hrun, hupd.st hs hb hk hal ?_, he⟩
  obtain ⟨e3, f3, c1', c2'⟩ := hupd.at_
  rw [b1] at c1'
  cases c1'
  refine ⟨_, _, _, c2', by rw [hupd.sz]; exact b2, by rw [hupd.sz, over_len hny hnx]; exact b3, fun q hq => ?_⟩
  rw [over_len hny hnx] at hq
  have hget := over_get hny hnx hq
  by_cases hin : i ≤ q ∧ q < i + n
  · rw [if_pos hin] at hget
    obtain ⟨vs, q1, q2, q3⟩ := hels (q - i) (by rw [htl]; omega)
    refine ⟨vs, q1, fun j hj => ?_, ?_⟩
    · rw [← q2 j hj, ← Array.getElem?_toList, setL_arr, Nat.add_zero, setL_get _ _ _ _ (by simpa using hroom)]
      have e1 : q * r.n = i * r.n + (q - i) * r.n := by rw [← Nat.add_mul]; congr 1; omega
      have e2 : (q - i) * r.n + j < news.length := by
        rw [hl]
        have : (q - i + 1) * r.n ≤ n * r.n := Nat.mul_le_mul_right _ (by omega)
        rw [Nat.succ_mul] at this
        omega
      rw [if_pos (by omega)]
      congr 1
      omega
    · have : (overL xs ys i n)[q]'(by rw [over_len hny hnx]; exact hq) = (ys.take n)[q - i]'(by rw [htl]; omega) := by
        have h3 : (ys.take n)[q - i]? = ys[q - i]? := by rw [List.getElem?_take, if_pos (by omega)]
        rw [← h3, List.getElem?_eq_getElem (by rw [over_len hny hnx]; exact hq), List.getElem?_eq_getElem (by rw [htl]; omega)] at hget
        injection hget
      rw [this]
      exact q3.mono he.keeps
  · rw [if_neg hin] at hget
    obtain ⟨vs, q1, q2, q3⟩ := b4 q hq
    refine ⟨vs, q1, fun j hj => ?_, ?_⟩
    · rw [← q2 j hj, ← Array.getElem?_toList, setL_arr, Nat.add_zero, setL_get _ _ _ _ (by simpa using hroom)]
      rw [if_neg]
      · simp
      rintro ⟨h1, h2⟩
      rw [hl, ← Nat.add_mul] at h2
      rcases Nat.lt_or_ge q i with h | h
      · have : (q + 1) * r.n ≤ i * r.n := Nat.mul_le_mul_right _ h
        rw [Nat.succ_mul] at this
        omega
      · have : (i + n) * r.n ≤ q * r.n := Nat.mul_le_mul_right _ (by omega)
        omega
    · have : (overL xs ys i n)[q]'(by rw [over_len hny hnx]; exact hq) = xs[q] := by
        rw [List.getElem?_eq_getElem (by rw [over_len hny hnx]; exact hq), List.getElem?_eq_getElem hq] at hget
        injection hget
      rw [this]
      exact q3.mono he.keeps

theorem Els.take {r : Sh} {ys : List r.den} {l : List Value} (h : Els pb w r ys l) (n : Nat) : Els pb w r (ys.take n) (l.take (n * r.n)) := by
  intro i hi
  have hi' : i < ys.length := by simp at hi; omega
  have hin : i < n := by simp at hi; omega
  obtain ⟨vs, a1, a2, a3⟩ := h i hi'
  refine ⟨vs, a1, fun j hj => ?_, by simpa using a3⟩
  rw [← a2 j hj, List.getElem?_take, if_pos]
  have : (i + 1) * r.n ≤ n * r.n := Nat.mul_le_mul_right _ hin
  rw [Nat.succ_mul] at this
  omega

theorem firstSn_run (rn n : Nat) (s : ByteArray) : (Builtin.firstCells rn n (.string s)).run P w = .ok (((bytesL s).map (Value.int .u8)).take n).toArray w := by
  have e : (s.extract 0 n).data.map (fun b => Value.int .u8 (b.toNat : Int)) = (((bytesL s).map (Value.int .u8)).take n).toArray := by
    apply Array.ext'
    simp [bytesL, ByteArray.data_extract]
    rfl
  show Sem.run P (pure _) w = _
  rw [← e]
  rfl
/-- What is laid over, read. -/
theorem srcOf_read {q : PV} {r : Sh} {ys : List r.den} {z : Value} (h : srcOf σ q = some ⟨r, ys⟩) (hs : St base σ pb w) (hv : VR σ pb w q z) :
    ∃ news : List Value, (Builtin.lenOf z).run P w = .ok ys.length w ∧ news.length = ys.length * r.n ∧ Els pb w r ys news ∧ ∀ n, n ≤ ys.length → (Builtin.firstCells r.n n z).run P w = .ok (news.take (n * r.n)).toArray w := by
  unfold srcOf at h
  split at h
  · rename_i s
    cases h
    obtain rfl : z = .string s := hv
    refine ⟨(bytesL s).map (Value.int .u8), ?_, ?_, bytes_els s, fun n hn => ?_⟩
    · show Result.ok s.size w = Result.ok (bytesL s).length w
      simp [bytesL]
    · rw [List.length_map]; exact (Nat.mul_one _).symm
    · rw [firstSn_run]
      simp only [Sh.n, Nat.mul_one]
  · obtain ⟨a1, c1, news, rfl, hread⟩ := rowOf_read h hs hv
    obtain ⟨hl1, hc1, hel1⟩ := hread
    refine ⟨news, rfl, hl1, hel1, fun n hn => ?_⟩
    refine first_run (by rw [List.length_take, hl1, Nat.min_eq_left (Nat.mul_le_mul_right _ hn)]) fun p v hp => ?_
    rw [List.getElem?_take] at hp
    split at hp
    · exact hc1 p v hp
    · cases hp
theorem copy_ok {ts : Array TypeId} {t ty : TypeId} (h0 : ts[0]? = some t) {p q : PV} {y z : Value} {tr : Tri} (h : oCopy P t p q σ = some tr) (hs : St base σ pb w) (hvp : VR σ pb w p y) (hvq : VR σ pb w q z) :
    SemOk P base σ pb w (Builtin.copy_ ts ty #[y, z]) tr := by
  unfold oCopy at h
  split at h
  · rename_i e ht
    split at h
    · rename_i r ys hrow
      split at h
      · rename_i hel
        obtain ⟨esz, hrn, ti, hti⟩ := elOk_spec hel
        have hisz : ti.size = r.n := by rw [← esz]; unfold szOf; rw [hti]
        obtain ⟨news, hlz, hl1, hel1, first0⟩ := srcOf_read (P := P) hrow hs hvq
        have first : ∀ n, n ≤ ys.length → (Builtin.firstCells ti.size n z).run P w = .ok (news.take (n * r.n)).toArray w := fun n hn => by rw [hisz]; exact first0 n hn
        have lens : ∀ n, n ≤ ys.length → (news.take (n * r.n)).length = n * r.n := by
          intro n hn
          rw [List.length_take, hl1, Nat.min_eq_left (Nat.mul_le_mul_right _ hn)]
        split at h
        · rename_i k g
          split at h
          · rename_i r' xs g' hk
            split at h
            · rename_i er
              subst er
              split at h
              · rename_i hg
                subst hg
                cases h
                obtain ⟨hlt, hv⟩ := hvp
                have hover : ys.take (min ys.length xs.length) ++ xs.drop (min ys.length xs.length) = overL xs ys 0 (min ys.length xs.length) := by simp [overL]
                simp only
                rw [hover]
                rcases (hv _ _ _ hk).2 rfl with ⟨b, cap, hb, rfl, hcap, hblk⟩ | ⟨hpb, hx, a, rfl⟩
                · obtain ⟨w', s1, s2, s3⟩ := over_step (P := P) hs hk hb (i := 0) (n := min ys.length xs.length) (ys := ys) (lens _ (Nat.min_le_left _ _)) (Els.take hel1 _) (Nat.min_le_left _ _) (by have := Nat.min_le_right ys.length xs.length; omega)
                  refine ⟨pb, w', _, copy_run (ty := ty) h0 ht hti hlz (first _ (Nat.min_le_left _ _)) (fun x hx => ?_) (fun hx => by cases hx), s2, s3, rfl⟩
                  cases hx
                  simpa using s1
                · subst hx
                  have hov : overL ([] : List r'.den) ys 0 (min ys.length ([] : List r'.den).length) = [] := by simp [overL]
                  rw [hov]
                  have hset : σ.set k (.rows r' [] g') = σ := by
                    apply List.ext_getElem?
                    intro i
                    by_cases q : k = i
                    · subst q; rw [List.getElem?_set_self (by exact hlt), hk]
                    · rw [List.getElem?_set_ne q]
                  rw [hset]
                  refine SemOk.stay hs (z := .int .i64 (Nat.min ys.length 0 : Nat)) ?_ (by simp [intV]; rfl)
                  refine copy_run (ty := ty) (ys := []) h0 ht hti hlz ?_ (fun x hx => rfl) (fun _ => rfl)
                  have := first 0 (Nat.zero_le _)
                  simpa using this
              · cases h
            · cases h
          · cases h
        · rename_i k i n g
          split at h
          · rename_i r' xs g' hk
            split at h
            · rename_i er
              subst er
              split at h
              · rename_i hg
                subst hg
                cases h
                obtain ⟨hlt, hv⟩ := hvp
                have hover : xs.take i ++ (ys.take (min ys.length n) ++ xs.drop (i + min ys.length n)) = overL xs ys i (min ys.length n) := rfl
                simp only
                rw [hover]
                rcases (hv _ _ _ hk).2 rfl with ⟨b, o, cap, hb, hle, ho, rfl, hcap⟩ | ⟨hx, a, rfl⟩
                · obtain ⟨w', s1, s2, s3⟩ := over_step (P := P) hs hk hb (i := i) (n := min ys.length n) (ys := ys) (lens _ (Nat.min_le_left _ _)) (Els.take hel1 _) (Nat.min_le_left _ _) (by have := Nat.min_le_right ys.length n; omega)
                  refine ⟨pb, w', _, copy_run (ty := ty) h0 ht hti hlz (first _ (Nat.min_le_left _ _)) (fun x hx => ?_) (fun hx => by cases hx), s2, s3, rfl⟩
                  cases hx
                  by_cases hz : n = 0
                  · subst hz
                    have e0 : news.take (min ys.length 0 * r'.n) = [] := by simp
                    have : (news.take (Nat.min ys.length 0 * r'.n)) = [] := by simp
                    rw [e0] at s1
                    rw [show w' = w by
                      have : (storeCells (⟨b, i * r'.n, none⟩ : Addr) []).run P w = .ok () w := rfl
                      rw [this] at s1
                      cases s1
                      rfl]
                    simp
                    rfl
                  · rw [ho (by omega)]
                    exact s1
                · subst hx
                  have hov : overL xs ys i (min ys.length 0) = xs := by simp [overL]
                  rw [hov]
                  have hset : σ.set k (.rows r' xs g') = σ := by
                    apply List.ext_getElem?
                    intro j
                    by_cases q : k = j
                    · subst q; rw [List.getElem?_set_self (by exact hlt), hk]
                    · rw [List.getElem?_set_ne q]
                  rw [hset]
                  refine SemOk.stay hs (z := .int .i64 (Nat.min ys.length 0 : Nat)) ?_ (by simp [intV]; rfl)
                  refine copy_run (ty := ty) (ys := []) h0 ht hti hlz ?_ (fun x hx => rfl) (fun _ => rfl)
                  have := first 0 (Nat.zero_le _)
                  simpa using this
              · cases h
            · cases h
          · cases h
        · cases h
      · cases h
    · cases h
  · cases h

theorem clear_run0 {ts : Array TypeId} {t e ty : TypeId} (h0 : ts[0]? = some t) (ht : P.underlying t = some (.slice e)) {a : Option Addr} {cap : Nat} : (Builtin.clear_ ts ty #[.slice a 0 cap]).run P w = .ok (.tuple #[]) w := by
  cases a <;> simp [Builtin.clear_, h0, und_run ht]
theorem clear_run {ts : Array TypeId} {t e ty : TypeId} (h0 : ts[0]? = some t) (ht : P.underlying t = some (.slice e)) {z : Value} (hz : zeroOf P e = some z) {a : Addr} {n cap : Nat} {ys : List Value} (hy : ys = ((Array.range (n * z.cells.size)).map fun i => z.cells[i % z.cells.size]!).toList)
    {w' : World} (hs : (storeCells a ys).run P w = .ok () w') : (Builtin.clear_ ts ty #[.slice (some a) n cap]).run P w = .ok (.tuple #[]) w' := by
  subst hy
  by_cases hn : n = 0
  · subst hn
    rw [clear_run0 h0 ht]
    have : (storeCells a []).run P w = .ok () w := rfl
    simp at hs
    rw [show (storeCells a ([] : List Value)).run P w = .ok () w from rfl] at hs
    cases hs
    rfl
  · obtain ⟨m, rfl⟩ : ∃ m, n = m + 1 := ⟨n - 1, by omega⟩
    have hzr := zero_run (P := P) (w := w) hz
    simp [Builtin.clear_, h0, und_run ht, hzr, Builtin.zeroCells]
    simp at hs
    rw [hs]
    rfl
theorem clear_ok {ts : Array TypeId} {t ty : TypeId} (h0 : ts[0]? = some t) {p : PV} {y : Value} {tr : Tri} (h : oClear P t p σ = some tr) (hs : St base σ pb w) (hvp : VR σ pb w p y) :
    SemOk P base σ pb w (Builtin.clear_ ts ty #[y]) tr := by
  unfold oClear at h
  split at h
  · rename_i e ht
    split at h
    · rename_i z r hz hsh
      split at h
      · rename_i x hpa
        split at h
        · rename_i hel
          obtain ⟨esz, hrn, ti, hti⟩ := elOk_spec hel
          have hzr : CRs σ pb w (zeroCellsP z) z.cells.toList := by
            cases z with
            | agg c => exact CRs.map_v' _ _ _ _
            | _ => exact ⟨rfl, trivial⟩
          obtain ⟨u, v, e1, e2, e3⟩ := parse_er hpa hzr
          have hv0 : v = [] := by
            cases v with
            | nil => rfl
            | cons a v => exact e3.elim
          rw [hv0, List.append_nil] at e1
          have hzl : z.cells.toList.length = r.n := by rw [e1]; exact e2.len
          have hzsz : z.cells.size = r.n := by rw [← hzl]; simp
          have hrange : ∀ N : Nat, ((List.replicate N u).flatten) = ((Array.range (N * z.cells.size)).map fun i => z.cells[i % z.cells.size]!).toList := by
            intro N
            rw [← e1, ← range_flatten z.cells.toList default N]
            simp only [Array.toList_map, Array.toList_range, hzl, hzsz]
            apply List.map_congr_left
            intro i _
            simp [Array.getElem!_eq_getD, List.getD_eq_getElem?_getD, Array.getD_eq_getD_getElem?]
          have hset : ∀ {k : Nat} {q : Place}, σ[k]? = some q → σ.set k q = σ := by
            intro k q hk
            apply List.ext_getElem?
            intro i
            by_cases c : k = i
            · subst c; rw [List.getElem?_set_self (List.getElem?_eq_some_iff.mp hk).1, hk]
            · rw [List.getElem?_set_ne c]
          have hul : ∀ N : Nat, ((List.replicate N u).flatten).length = N * r.n := by intro N; simp [List.length_flatten, e2.len]
          split at h
          · rename_i k g
            split at h
            · rename_i r' xs g' hk
              split at h
              · rename_i er
                subst er
                split at h
                · rename_i hg
                  subst hg
                  cases h
                  obtain ⟨hlt, hv⟩ := hvp
                  rcases (hv _ _ _ hk).2 rfl with ⟨b, cap, hb, rfl, hcap, hblk⟩ | ⟨hpb, hx, a, rfl⟩
                  · have hov : List.replicate xs.length x = overL xs (List.replicate xs.length x) 0 xs.length := by simp [overL]
                    obtain ⟨w', s1, s2, s3⟩ := over_step (P := P) hs hk hb (i := 0) (n := xs.length) (ys := List.replicate xs.length x) (news := (List.replicate xs.length u).flatten) (hul _) (by rw [List.take_of_length_le (by simp)]; exact rep_els e2 _) (by simp) (by omega)
                    rw [← hov] at s2 s3
                    rw [Nat.zero_mul] at s1
                    exact ⟨pb, w', _, clear_run (ty := ty) h0 ht hz (hrange _) s1, s2, s3, rfl⟩
                  · subst hx
                    have e0 : List.replicate ([] : List r'.den).length x = [] := rfl
                    simp only
                    rw [e0, hset hk]
                    exact SemOk.stay hs (clear_run0 h0 ht) rfl
                · cases h
              · cases h
            · cases h
          · rename_i k i n g
            split at h
            · rename_i r' xs g' hk
              split at h
              · rename_i er
                subst er
                split at h
                · rename_i hg
                  subst hg
                  cases h
                  obtain ⟨hlt, hv⟩ := hvp
                  rcases (hv _ _ _ hk).2 rfl with ⟨b, o, cap, hb, hle, ho, rfl, hcap⟩ | ⟨hx, a, rfl⟩
                  · have hov : xs.take i ++ (List.replicate n x ++ xs.drop (i + n)) = overL xs (List.replicate n x) i n := by unfold overL; rw [List.take_of_length_le (i := n) (l := List.replicate n x) (by simp)]
                    obtain ⟨w', s1, s2, s3⟩ := over_step (P := P) hs hk hb (i := i) (n := n) (ys := List.replicate n x) (news := (List.replicate n u).flatten) (hul _) (by rw [List.take_of_length_le (by simp)]; exact rep_els e2 _) (by simp) hle
                    simp only
                    rw [hov]
                    refine ⟨pb, w', _, ?_, s2, s3, rfl⟩
                    by_cases hz0 : n = 0
                    · subst hz0
                      rw [clear_run0 h0 ht]
                      have : (storeCells (⟨b, i * r'.n, none⟩ : Addr) []).run P w = .ok () w := rfl
                      simp only [List.replicate_zero, List.flatten_nil] at s1
                      rw [this] at s1
                      cases s1
                      rfl
                    · rw [ho (by omega)]
                      exact clear_run (ty := ty) h0 ht hz (hrange _) s1
                  · subst hx
                    have e0 : xs.take i ++ (List.replicate 0 x ++ xs.drop (i + 0)) = xs := by simp
                    simp only
                    rw [e0, hset hk]
                    exact SemOk.stay hs (clear_run0 h0 ht) rfl
                · cases h
              · cases h
            · cases h
          · cases h
        · cases h
      · cases h
    · cases h
  · cases h

/-! ### the text of bytes that are nobody's from there on -/
theorem sliceData_ok {ts : Array TypeId} {ty : TypeId} {p : PV} {y : Value} {tr : Tri} (h : oSliceData p σ = some tr) (h1 : tr.ok = true) (hs : St base σ pb w) (hp : VR σ pb w p y) :
    SemOk P base σ pb w (Builtin.unsafeSliceData_ ts ty #[y]) tr := by
  unfold oSliceData at h
  split at h
  · rename_i k g e
    split at h
    · rename_i xs g' hk
      split at h
      · rename_i hg
        subst hg
        cases h
        have hpos := of_decide_eq_true h1
        obtain ⟨⟨hlt, hv⟩, hty⟩ := hp
        rcases (hv _ _ _ hk).2 rfl with ⟨b, cap, hb, rfl, hcap, _⟩ | ⟨_, hx, _⟩
        · refine SemOk.stay hs (z := .pointer (some ⟨b, 0, none⟩)) (Lib.run_unsafeSliceData_row w ts ty _ _ _ (by omega)) ⟨hlt, fun r xs' g'' hk' => ?_⟩
          rw [hk] at hk'
          cases hk'
          exact ⟨Nat.le_refl _, fun _ => ⟨b, hb, rfl, hty _ _ hk b hb⟩⟩
        · rw [hx] at hpos
          exact absurd hpos (Nat.lt_irrefl 0)
      · cases h
    · cases h
  · cases h
theorem loadB_run (b : Nat) : ∀ (xs : List Int) (o : Nat) (acc : ByteArray), (∀ j x, xs[j]? = some x → w.cell? ⟨b, o + j, none⟩ = some (.int .u8 x)) →
    (loadBytes ⟨b, o, none⟩ acc xs.length).run P w = .ok ⟨acc.data ++ (xs.map fun n => UInt8.ofNat n.toNat).toArray⟩ w
  | [], o, acc, _ => by simp [loadBytes]
  | x :: l, o, acc, h => by
    have h0 := h 0 x rfl
    rw [Nat.add_zero] at h0
    have ih := loadB_run b l (o + 1) (acc.push (UInt8.ofNat x.toNat)) (fun j y hy => by
      have := h (j + 1) y (by simpa using hy)
      rw [Nat.add_assoc, Nat.add_comm 1 j]
      exact this)
    have ea : (⟨b, o, none⟩ : Addr).add 1 = ⟨b, o + 1, none⟩ := add_mk ..
    have hx : x.toNat.toUInt8 = UInt8.ofNat x.toNat := rfl
    simp only [List.length_cons, loadBytes, Sem.run_bind, run_load, h0, Result.andThen, hx, ea]
    rw [ih]
    congr 1
    apply ByteArray.ext
    simp [ByteArray.push]
theorem uString_run {pt it ty e : TypeId} (hp : P.underlying pt = some (.pointer e)) (hc : P.cellsOf e = 1) {g cells : Nat} (hsh : w.shape? g = some (e, cells)) {xs : List Int} (h0 : 0 < xs.length) (hn : xs.length ≤ cells) (h63 : xs.length ≤ 9223372036854775807)
    (hcell : ∀ j x, xs[j]? = some x → w.cell? ⟨g, 0 + j, none⟩ = some (.int .u8 x)) :
    (Builtin.unsafeString_ #[pt, it] ty #[.pointer (some ⟨g, 0, none⟩), .int .i64 xs.length]).run P w = .ok (.string (strL xs)) (w.freeze ⟨g, 0, none⟩ xs.length) := by
  have hl : xs.length ≠ 0 := by omega
  have hl2 : ¬ xs = [] := fun e => by rw [e] at h0; exact absurd h0 (Nat.lt_irrefl 0)
  have hlb := loadB_run (P := P) g xs 0 .empty hcell
  have hlies := Lib.liesAt_bytes (P := P) hc (cells / P.cellsOf e) xs.length (by rw [hc]; simpa using hn)
  have h63' : ¬ (9223372036854775807 : Int) < (xs.length : Int) := by omega
  have hdef : Builtin.unsafeString_ #[pt, it] ty #[.pointer (some ⟨g, 0, none⟩), .int .i64 xs.length] =
      (do
        let n ← asInt (.int .i64 xs.length)
        if n < 0 then runtimePanic (.error "unsafe.String: len out of range")
        if n > IntKind.i64.max then unsupported (.unsafePointer "String: a length above the largest int")
        if n = 0 then pure (.string .empty)
        else if ← variablesAt ⟨g, 0, none⟩ (← elemOf pt) n.toNat then do
          let s ← loadBytes ⟨g, 0, none⟩ .empty n.toNat
          freeze ⟨g, 0, none⟩ n.toNat
          pure (.string s)
        else unsupported (.unsafePointer "String: not so many bytes at ptr")) := rfl
  rw [hdef]
  have hmax : IntKind.i64.max = 9223372036854775807 := rfl
  have hneg : ¬ (xs.length : Int) < 0 := by omega
  simp [asInt, asIntOf, hmax, h63', hneg, hl, hl2, variablesAt, hsh, elemOf, run_underlying hp, hlies, hlb, strL]
theorem uString_ok {t it ty : TypeId} {p q : PV} {y z : Value} {tr : Tri} (h : oUString P t p q σ = some tr) (h1 : tr.ok = true) (hs : St base σ pb w) (hp : VR σ pb w p y) (hq : VR σ pb w q z) :
    SemOk P base σ pb w (Builtin.unsafeString_ #[t, it] ty #[y, z]) tr := by
  unfold oUString at h
  split at h
  · rename_i k g e n
    split at h
    · rename_i xs g' e' hk hu
      split at h
      · rename_i hc
        obtain ⟨rfl, rfl, hcell1⟩ := hc
        cases h
        simp only [Bool.and_eq_true, decide_eq_true_eq] at h1
        obtain ⟨hn, hpos, h63⟩ := h1
        obtain rfl : z = .int .i64 n := hq
        subst hn
        obtain ⟨hlt, hv⟩ := hp
        obtain ⟨b, hb, rfl, cty, fty, hty⟩ := (hv _ _ _ hk).2 rfl
        obtain ⟨c, e2, f, c1, c2, c3, c4⟩ := St.rows (hs := hs) hk hb
        rw [c1] at hty
        cases hty
        have hl := hs.len
        have hlp : k < pb.length := by omega
        have hsh : w.shape? b = some (e', cty.size) := by simp [World.shape?, c1]
        have hrun := uString_run (P := P) (w := w) (it := it) (ty := ty) hu hcell1 hsh hpos (by simpa [Sh.n] using c3) h63 (fun j x hx => by
          have hj : j < List.length (α := Int) xs := (List.getElem?_eq_some_iff.mp hx).1
          obtain ⟨vs, d1, d2, d3⟩ := c4 j hj
          simp only [ER] at d3
          have := d2 0 (by simp [Sh.n])
          rw [d3] at this
          simp only [Sh.n, Nat.mul_one, Nat.add_zero] at this
          rw [Nat.zero_add, cell_mk _ _ _ c1, this]
          have hxx := (List.getElem?_eq_some_iff.mp hx).2
          rw [← hxx]
          rfl)
        have hheap : ∀ b', b' ≠ b → (w.freeze ⟨b, 0, none⟩ xs.length).heap[b']? = w.heap[b']? := by
          intro b' hne
          unfold World.freeze
          split
          · rfl
          · simp only [Array.getElem?_modify]
            rw [if_neg (fun e => hne e.symm)]
        have hsize : (w.freeze ⟨b, 0, none⟩ xs.length).heap.size = w.heap.size := by
          unfold World.freeze
          split <;> simp
        have hself : ∃ f', (w.freeze ⟨b, 0, none⟩ xs.length).heap[b]? = some (.cells cty e' f') ∧ (fty.2 ≤ cty.size → f'.2 ≤ cty.size) := by
          unfold World.freeze
          split
          · exact ⟨_, c1, id⟩
          · obtain ⟨lo, hi⟩ := fty
            simp only [Array.getElem?_modify, if_pos, c1, Option.map_some]
            refine ⟨_, rfl, fun h => ?_⟩
            have c3 : xs.length * 1 ≤ cty.size := c3
            split
            · show 0 + xs.length ≤ _
              omega
            · show max hi (0 + xs.length) ≤ _
              omega
        have hsub : ∀ (j b' : Nat), (pb.set k none)[j]? = some (some b') → pb[j]? = some (some b') ∧ j ≠ k := by
          intro j b' h
          by_cases e : k = j
          · subst e
            rw [List.getElem?_set] at h
            simp at h
          · rw [List.getElem?_set_ne e] at h
            exact ⟨h, fun e' => e e'.symm⟩
        have hmem : ∀ b' : Nat, some b' ∈ pb.set k none → some b' ∈ pb := by
          intro b' hb'
          obtain ⟨j, hj, e⟩ := List.getElem_of_mem hb'
          exact List.mem_of_getElem? (hsub j b' (by rw [List.getElem?_eq_getElem hj, e])).1
        have hbm : some b ∈ pb := List.mem_of_getElem? hb
        have he : Ext σ pb w (σ.set k .dead) (pb.set k none) (w.freeze ⟨b, 0, none⟩ xs.length) := by
          refine ⟨?_, ?_, ?_, by rw [hsize]; exact Nat.le_refl _, ⟨fun b' hb' => ⟨⟨by rw [hsize]; exact hb'.1, fun h => hb'.2.1 (hmem b' h), hb'.2.2⟩, hheap b' (fun e => hb'.2.1 (e ▸ hbm))⟩, fun b' hb' => hheap b' (fun e => (hs.frn b' hb').2 (e ▸ hbm))⟩, fun b' c' e' f' h => ?_, by simp, fun j hj => ?_⟩
          · unfold World.freeze; split <;> rfl
          · unfold World.freeze; split <;> rfl
          · unfold World.freeze; split <;> rfl
          · by_cases eb : b' = b
            · subst eb
              rw [c1] at h
              cases h
              obtain ⟨f'', h''⟩ := hself
              exact ⟨_, _, h''.1, rfl, h''.2⟩
            · exact ⟨c', f', by rw [hheap b' eb]; exact h, rfl, id⟩
          · by_cases e : k = j
            · subst e
              rw [List.getElem?_set_self hj]
              exact ⟨fun cs h => (by cases h), fun r' ys g' h => (by cases h)⟩
            · rw [List.getElem?_set_ne e, List.getElem?_set_ne e]
              exact ⟨fun cs h => ⟨⟨cs, h⟩, rfl⟩, fun r xs g h => ⟨xs, g, h, Nat.le_refl _, fun _ => ⟨rfl, rfl⟩⟩⟩
        refine ⟨_, _, _, hrun, ⟨Nat.le_trans hs.bs he.size, by simpa using hs.len, fun i j b' hi hj => hs.inj i j b' (hsub i b' hi).1 (hsub j b' hj).1, fun i b' hi => ⟨(hs.bnd i b' (hsub i b' hi).1).1, by rw [hsize]; exact (hs.bnd i b' (hsub i b' hi).1).2⟩, fun b' hb' => ⟨by rw [hsize]; exact (hs.frn b' hb').1, fun h => (hs.frn b' hb').2 (hmem b' h)⟩, fun j p o hj ho => ?_⟩, he, rfl⟩
        by_cases e : k = j
        · subst e
          rw [List.getElem?_set_self hlt] at hj
          cases hj
          cases o <;> exact trivial
        · rw [List.getElem?_set_ne e] at hj ho
          refine PlaceR.ext he (fun b' hb' => hheap b' (fun eb => ?_)) (hs.pl j p o hj ho)
          rw [hb', eb] at ho
          exact e (hs.inj k j b hb ho)
      · cases h
    · cases h
  · cases h

end Go.Proofs.YthkjjombaoffcaaGreatDoorPM

/- Maps that stay: what is looked up in them. -/
set_option linter.unusedVariables false
set_option linter.unusedSectionVars false
set_option linter.unusedSimpArgs false
noncomputable section
namespace Go.Proofs.YthkjjombaoffcaaGreatDoorPM
open Go Go.RowKit Go.Maps
variable [Foreign]
variable {P : Program} {base : Nat} {σ : Sig} {pb : Pb} {w : World}
theorem cr_ar {p : PV} {y : Value} (h : CR σ pb w p y) : AR σ pb w p y := by
  cases p <;> first | exact h | exact h.elim
theorem ar_vr {p : PV} {y : Value} (h : AR σ pb w p y) : VR σ pb w p y := by
  cases p <;> first | exact h | exact h.elim
theorem wrap_rel {ag : Bool} {r : Sh} {x : r.den} {vs : List Value} {v : PV} {y : Value} (h : wrapCells ag (r.cells x) = some v) (he : ER pb w r x vs) (hy : wrapVs ag vs = some y) : AR σ pb w v y := by
  have hc : CRs σ pb w (r.cells x) vs := he.crs
  cases ag with
  | true =>
    cases h
    cases hy
    exact ⟨vs, rfl, hc⟩
  | false =>
    generalize r.cells x = l at h hc
    unfold wrapCells at h
    split at h
    · rename_i hab; cases hab
    · rename_i p _
      cases h
      cases vs with
      | nil => exact hc.elim
      | cons z vs =>
        cases vs with
        | cons => exact hc.2.elim
        | nil =>
          cases hy
          exact cr_ar hc.1
    · cases h
theorem zOk_wrap {ag : Bool} {z : Value} (h : zOk ag z = true) : wrapVs ag z.cells.toList = some z := by
  cases z with
  | agg c =>
    cases ag with
    | true => rfl
    | false => cases h
  | _ =>
    cases ag with
    | true => cases h
    | false => rfl
theorem lookup_ok {t : TypeId} {p q : PV} {y z : Value} {c : Bool} {tr : Tri} (h : oLookup P t p q c σ = some tr) (h1 : tr.ok = true) (hs : St base σ pb w) (hvp : VR σ pb w p y) (hvq : VR σ pb w q z) :
    SemOk P base σ pb w (Instr.lookup t y z c) tr := by
  unfold oLookup at h
  split at h
  · rename_i kt et ht
    split at h
    · rename_i kk kk' ag r xs k n hk
      split at h
      · rename_i hkk
        obtain ⟨rfl, rfl⟩ := hkk
        split at h
        · rename_i z0 hz0
          split at h
          · rename_i x0 hpa
            split at h
            · rename_i hzo
              split at h
              · rename_i v hwr
                cases h
                have h1 : (Lit.int _ n).wf = true := h1
                obtain ⟨b, rfl, him, es, clock, hb, hes, hfi⟩ := (show CR σ pb w (.mapc _ ag r xs) y from hvp)
                obtain rfl : z = .int _ n := hvq
                have K := int_keyed hk
                have hkey := keyOf_int_mk hk h1
                have hz := zero_run (w := w) hz0
                have keys : ∀ e ∈ es.toList, ∃ l, keyOf P kt e.key = some l := fun e he => by
                  obtain ⟨m, v', vs, a1, a2, _⟩ := hes e he
                  exact ⟨_, by rw [a1]; exact keyOf_int_mk hk a2⟩
                have hzr : CRs σ pb w (zeroCellsP z0) z0.cells.toList := by
                  cases z0 with
                  | agg c => exact CRs.map_v' _ _ _ _
                  | _ => exact ⟨rfl, trivial⟩
                obtain ⟨u, v', e1, e2, e3⟩ := parse_er hpa hzr
                have hv0 : v' = [] := by
                  cases v' with
                  | nil => rfl
                  | cons a v => exact e3.elim
                rw [hv0, List.append_nil] at e1
                have fin : ∀ {y' : Value} {bb : Bool}, AR σ pb w v y' → hasM n xs = bb → VR σ pb w (bif c then .tup [v, boolV (hasM n xs)] else v) (if c then .tuple #[y', .bool bb] else y') := by
                  intro y' bb h9 h8
                  cases c with
                  | true => exact ⟨[y', .bool bb], rfl, h9, by rw [h8]; rfl, trivial⟩
                  | false => exact ar_vr h9
                rcases K.find w hkey es.toList keys with ⟨hf, hno⟩ | ⟨j, e0, hf, h2, h3⟩
                · have hn : findM n xs = none := by
                    cases e : findM n xs with
                    | none => rfl
                    | some v1 =>
                      obtain ⟨x, hx, hxk⟩ := hfi n v1 e
                      exact absurd hxk (hno x hx)
                  rw [show getM x0 n xs = x0 by simp [getM, hn]] at hwr
                  refine SemOk.stay hs (z := if c then .tuple #[z0, .bool false] else z0) ?_ (fin (wrap_rel hwr e2 (by rw [← e1]; exact zOk_wrap hzo)) (by simp [hasM, hn]))
                  simp [Instr.lookup, run_underlying ht, MapKept.run_getObj_map hb, K.check w _ hkey, hf, hz, Result.andThen]
                · have hm0 : e0 ∈ es.toList := List.mem_of_getElem? h2
                  obtain ⟨m, v1, vs, a1, a2, a3, a4, a5⟩ := hes e0 hm0
                  obtain rfl : m = n := by rw [h3] at a1; injection a1 with _ a1; exact a1.symm
                  rw [show getM x0 m xs = v1 by simp [getM, a3]] at hwr
                  refine SemOk.stay hs (z := if c then .tuple #[e0.val, .bool true] else e0.val) ?_ (fin (wrap_rel hwr a4 a5) (by simp [hasM, a3]))
                  simp [Instr.lookup, run_underlying ht, MapKept.run_getObj_map hb, K.check w _ hkey, hf, Result.andThen]
              · cases h
            · cases h
          · cases h
        · cases h
      · cases h
    · cases h
  · cases h
end Go.Proofs.YthkjjombaoffcaaGreatDoorPM

/- Typed patterns of values and places. -/
set_option linter.unusedVariables false
set_option linter.unusedSectionVars false
set_option linter.unusedSimpArgs false
noncomputable section
namespace Go.Proofs.YthkjjombaoffcaaGreatDoorPM
open Go
def nth {α : Type} : List α → Nat → Option α
  | [], _ => none
  | x :: _, 0 => some x
  | _ :: r, n + 1 => nth r n

/-- What some cells hold. -/
inductive CK where
  | sh (r : Sh)
  | ptr (j o : Nat)
  | own (j : Nat)
  | ref (j : Nat)
  | rp (j off : Nat)
  | apl (j i n : Nat)
  | ep (r : Sh) (off : Nat)
  | bp (j : Nat) (e e2 : TypeId)
  | ot (j : Nat) (e : TypeId)
  | mapc (kk : IntKind) (ag : Bool) (r : Sh)
  | nil
  | any
@[reducible] def CK.den : CK → Type
  | .sh r => r.den
  | .ref _ => Nat × Nat
  | .rp _ _ => Nat
  | .ep r _ => r.den
  | .bp .. => Bool
  | .mapc _ _ r => List (Int × r.den)
  | _ => Unit
@[reducible] def dens : List CK → Type
  | [] => Unit
  | c :: l => c.den × dens l

def encC (m : Nat → Nat × Nat) : (c : CK) → c.den → List PV
  | .sh r, x => r.cells x
  | .ptr j o, _ => [.ptr (m j).1 o]
  | .own j, _ => [.own (m j).1 (m j).2]
  | .ref j, x => [.ref (m j).1 x.1 x.2 (m j).2]
  | .rp j off, x => [.rp (m j).1 x off (m j).2]
  | .apl j i n, _ => [.apl (m j).1 i n (m j).2]
  | .ep r off, x => [.ep r x off]
  | .bp j e e2, c => [.bp c (m j).1 e e2]
  | .ot j e, _ => [.ot (m j).1 (m j).2 e]
  | .mapc kk ag r, xs => [.mapc kk ag r xs]
  | .nil, _ => [.v (.slice none 0 0)]
  | .any, _ => [.dead]
def encL (m : Nat → Nat × Nat) : (l : List CK) → dens l → List PV
  | [], _ => []
  | c :: l, d => encC m c d.1 ++ encL m l d.2
def decC (m : Nat → Nat × Nat) : (c : CK) → List PV → Option (c.den × List PV)
  | .sh r, ps => r.parse ps
  | .ptr j o, ps => match ps with
    | .ptr k o' :: t => bif Nat.beq k (m j).1 && Nat.beq o' o then some ((), t) else none
    | _ => none
  | .own j, ps => match ps with
    | .own k g :: t => bif Nat.beq k (m j).1 && Nat.beq g (m j).2 then some ((), t) else none
    | _ => none
  | .ref j, ps => match ps with
    | .ref k i n g :: t => bif Nat.beq k (m j).1 && Nat.beq g (m j).2 then some ((i, n), t) else none
    | _ => none
  | .rp j off, ps => match ps with
    | .rp k i o g :: t => bif Nat.beq k (m j).1 && (Nat.beq g (m j).2 && Nat.beq o off) then some (i, t) else none
    | _ => none
  | .apl j i n, ps => match ps with
    | .apl k i' n' g :: t => bif Nat.beq k (m j).1 && (Nat.beq g (m j).2 && (Nat.beq i' i && Nat.beq n' n)) then some ((), t) else none
    | _ => none
  | .ep r off, ps => match ps with
    | .ep r' x o :: t => bif Nat.beq o off then (if h : r' = r then some (h ▸ x, t) else none) else none
    | _ => none
  | .bp j e e2, ps => match ps with
    | .bp c k e' e2' :: t => bif Nat.beq k (m j).1 && (Nat.beq e' e && Nat.beq e2' e2) then some (c, t) else none
    | _ => none
  | .ot j e, ps => match ps with
    | .ot k g e' :: t => bif Nat.beq k (m j).1 && (Nat.beq g (m j).2 && Nat.beq e' e) then some ((), t) else none
    | _ => none
  | .mapc kk ag r, ps => match ps with
    | .mapc kk' ag' r' xs :: t => if h : r' = r then (if kk' = kk ∧ ag' = ag then some (h ▸ xs, t) else none) else none
    | _ => none
  | .nil, ps => match ps with
    | .v (.slice none 0 0) :: t => some ((), t)
    | _ => none
  | .any, ps => match ps with
    | _ :: t => some ((), t)
    | [] => none
def decL (m : Nat → Nat × Nat) : (l : List CK) → List PV → Option (dens l)
  | [], ps => match ps with
    | [] => some ()
    | _ => none
  | c :: l, ps => match decC m c ps with
    | some (x, t) => match decL m l t with
      | some d => some (x, d)
      | none => none
    | none => none

/-- What a temporary holds. -/
inductive AK where
  | one (c : CK)
  | agg (l : List CK)
  | fn (f : FuncId) (l : List CK)
  | arr (k : IntKind)
  | any
def cellish : PV → Bool
  | .agg _ => false
  | .arr _ _ => false
  | .tup _ => false
  | .fn _ _ => false
  | _ => true
@[reducible] def AK.den : AK → Type
  | .one c => c.den
  | .agg l => dens l
  | .fn _ l => dens l
  | .arr _ => List Int
  | .any => Unit
@[reducible] def adens : List AK → Type
  | [] => Unit
  | c :: l => c.den × adens l
def fst1 : List PV → PV
  | [p] => p
  | _ => .dead
def encA (m : Nat → Nat × Nat) : (a : AK) → a.den → PV
  | .one c, d => fst1 (encC m c d)
  | .agg l, d => .agg (encL m l d)
  | .fn f l, d => .fn f (encL m l d)
  | .arr k, l => .arr k l
  | .any, _ => .dead
def decA (m : Nat → Nat × Nat) : (a : AK) → PV → Option a.den
  | .one c, p => bif cellish p then (match decC m c [p] with
    | some (x, []) => some x
    | _ => none) else none
  | .agg l, p => match p with
    | .agg cs => decL m l cs
    | _ => none
  | .fn f l, p => match p with
    | .fn g cs => bif Nat.beq g f then decL m l cs else none
    | _ => none
  | .arr k, p => match p with
    | .arr k' l => if k' = k then some l else none
    | _ => none
  | .any, p => match p with
    | .tup _ => none
    | _ => some ()
def encAs (m : Nat → Nat × Nat) : (l : List AK) → adens l → List PV
  | [], _ => []
  | a :: l, d => encA m a d.1 :: encAs m l d.2
def decAs (m : Nat → Nat × Nat) : (l : List AK) → List PV → Option (adens l)
  | [], ps => match ps with
    | [] => some ()
    | _ => none
  | a :: l, ps => match ps with
    | p :: t => match decA m a p with
      | some x => match decAs m l t with
        | some d => some (x, d)
        | none => none
      | none => none
    | [] => none

/-- Results: one, or several together. -/
def decRes (m : Nat → Nat × Nat) (l : List AK) (p : PV) : Option (adens l) := match l with
  | [a] => match decA m a p with
    | some x => some (x, ())
    | none => none
  | l => match p with
    | .tup ps => decAs m l ps
    | _ => none

/-- What a place holds. -/
inductive PK where
  | cells (l : List CK)
  | rows (r : Sh) (kp : Bool := false)
  | gone
@[reducible] def PK.den : PK → Type
  | .cells l => dens l
  | .rows r _ => List r.den
  | .gone => Unit
@[reducible] def pdens : List PK → Type
  | [] => Unit
  | c :: l => c.den × pdens l
def encP (m : Nat → Nat × Nat) (g : Nat) : (p : PK) → p.den → Place
  | .cells l, d => .cells (encL m l d)
  | .rows r _, xs => .rows r xs g
  | .gone, _ => .dead
def decP (m : Nat → Nat × Nat) (g : Nat) : (p : PK) → Place → Option p.den
  | .cells l, q => match q with
    | .cells cs => decL m l cs
    | _ => none
  | .rows r kp, q => match q with
    | .rows r' xs g' => bif Nat.beq g' g && (!kp || Nat.beq g 0) then (if h : r' = r then some (h ▸ xs) else none) else none
    | _ => none
  | .gone, _ => some ()
def encPs (m : Nat → Nat × Nat) : (j : Nat) → (l : List PK) → pdens l → List Place
  | _, [], _ => []
  | j, p :: l, d => encP m (m j).2 p d.1 :: encPs m (j + 1) l d.2
/-- The places of the slots, wherever they lie. -/
def decPs (m : Nat → Nat × Nat) (σ : Sig) : (j : Nat) → (l : List PK) → Option (pdens l)
  | _, [] => some ()
  | j, p :: l => match nth σ (m j).1 with
    | some q => match decP m (m j).2 p q with
      | some x => match decPs m σ (j + 1) l with
        | some d => some (x, d)
        | none => none
      | none => none
    | none => none

def okC (n : Nat) : CK → Bool
  | .ptr j _ => Nat.blt j n
  | .own j => Nat.blt j n
  | .ref j => Nat.blt j n
  | .rp j _ => Nat.blt j n
  | .apl j _ _ => Nat.blt j n
  | .bp j _ _ => Nat.blt j n
  | .ot j _ => Nat.blt j n
  | _ => true
def okL (n : Nat) : List CK → Bool
  | [] => true
  | c :: l => okC n c && okL n l
def okA (n : Nat) : AK → Bool
  | .one c => okC n c
  | .agg l => okL n l
  | .fn _ l => okL n l
  | .arr _ => true
  | .any => true
def okAs (n : Nat) : List AK → Bool
  | [] => true
  | c :: l => okA n c && okAs n l
def okP (n : Nat) : PK → Bool
  | .cells l => okL n l
  | _ => true
def okPs (n : Nat) : List PK → Bool
  | [] => true
  | c :: l => okP n c && okPs n l

def locI (j : Nat) : Nat × Nat := (j, 0)
/-- A row that nobody has moved since the function began keeps the mark 0. -/
def kpAt (qk : List PK) (j : Nat) : Bool := match nth qk j with
  | some (.rows _ kp) => kp
  | _ => false
def resI (qk : List PK) (j : Nat) : Nat × Nat := (j, bif kpAt qk j then 0 else 1)
def genI (σ : Sig) (j : Nat) : Nat × Nat := (j, match nth σ j with
  | some (.rows _ _ g) => g
  | _ => 0)

end Go.Proofs.YthkjjombaoffcaaGreatDoorPM

/- Code, reckoned by values. -/
set_option linter.unusedVariables false
set_option linter.unusedSectionVars false
set_option linter.unusedSimpArgs false
noncomputable section
namespace Go.Proofs.YthkjjombaoffcaaGreatDoorPM
open Go Go.RowKit

def sel {α : Type} (t : Bool) (a b : α) : α := match t with
  | true => a
  | false => b
def chk {R : Type} (t : Bool) (x : Option R) : Option R := match t with
  | true => x
  | false => none
theorem chk_some {R : Type} {t : Bool} {x : Option R} {r : R} (h : chk t x = some r) : t = true ∧ x = some r := by
  cases t
  · cases h
  · exact ⟨rfl, h⟩

def CallK := (R : Type) → FuncId → List PV → Sig → (PV → Sig → Option R) → Option R

/-- Steps that may be told in another way: a text's bytes as rows that nobody writes, a written-out slice as a row of one's own, the beginning of an own row as the row. -/
def oAlt (P : Program) (f : Fr) (σ : Sig) (o : Oper) : Option Tri := match o.op with
  | .convert s d x => match ev f x with
    | .v (.string b) => match P.underlying s, P.underlying d with
      | some _, some (.slice e) => match P.underlying e with
        | some (.int .u8) => some ⟨true, .rows false (.int .u8) (bytesL b), σ⟩
        | _ => none
      | _, _ => none
    | _ => none
  | .buildSlice t n parts => match oBuildSlice P t n (partsE f parts.toList) σ with
    | some ⟨_, .rows _ r xs, _⟩ => some ⟨true, .own σ.length 0, σ ++ [.rows r xs 0]⟩
    | _ => none
  | .slice t x none (some hi) none => match ev f x, asI (ev f hi) with
    | .own k g, some n => match P.underlying t, σ[k]? with
      | some (.slice e), some (.rows r xs g') => if g' = g ∧ elOk P e r = true then some ⟨decide (0 ≤ n) && decide (n ≤ xs.length), .own k (g + 1), σ.set k (.rows r (xs.take n.toNat) (g + 1))⟩ else none
      | _, _ => none
    | _, _ => none
  | _ => none
def hasN (t : Nat) : List Nat → Bool
  | [] => false
  | x :: r => Nat.beq x t || hasN t r
def dstIn (o : Oper) (l : List Nat) : Bool := match o.dst with
  | some d => hasN d l
  | none => false
def opK (P : Program) (call : CallK) (al : Bool) {R : Type} (f : Fr) (σ : Sig) (o : Oper) (k : PV → Sig → Option R) : Option R :=
  match o.op with
  | .pick c a b => match ev f c with
    | .v (.bool t) => sel t (k (ev f a) σ) (k (ev f b) σ)
    | _ => none
  | .call { callee := .value g, args := args, argTypes := _ } => match ev f g with
    | .fn n caps => bif al then (match oFor P n (evs f args.toList ++ caps) with
      | some (c, p) => chk c (k p σ)
      | none => none) else call R n (evs f args.toList ++ caps) σ k
    | _ => none
  | _ => match (bif al then oAlt P f σ o else stp P f σ o) with
    | some t => chk t.ok (k t.pv t.σ)
    | none => none

def gdst (ops : List Oper) (j : Nat) : Option Nat := match ops[j]? with
  | some o => o.dst
  | none => none

/-! ### a map that is written out and looked up at once: numbers to numbers -/
def hasK (n : Int) : List (Int × Int) → Bool
  | [] => false
  | x :: r => decide (x.1 = n) || hasK n r
def getK (n : Int) : List (Int × Int) → Int
  | [] => 0
  | x :: r => bif decide (x.1 = n) then x.2 else getK n r
def insOf (mt t0 : Nat) (kk q : IntKind) (o : Oper) : Option (Int × Int) := match o.guard, o.dst, o.op with
  | none, none, .insert mt' (.tmp t) (.const (.int k1 a)) (.const (.int k2 b)) => bif Nat.beq mt' mt && (Nat.beq t t0 && (decide (k1 = kk) && (decide (k2 = q) && ((Lit.int kk a).wf && (Lit.int q b).wf)))) then some (a, b) else none
  | _, _, _ => none
def movOf (o : Oper) : Option (Nat × Operand) := match o.guard, o.dst, o.op with
  | none, some d, .move x => some (d, x)
  | none, some d, .assign x => some (d, x)
  | _, _, _ => none
def lookOf (mt t1 t2 : Nat) (o : Oper) : Option Nat := match o.guard, o.dst, o.op with
  | none, some d, .lookup mt' (.tmp a) (.tmp b) false => bif Nat.beq mt' mt && (Nat.beq a t1 && Nat.beq b t2) then some d else none
  | _, _, _ => none
/-- What is behind the entries: the map and the key are laid beside, looked up, and the answer is laid where it belongs. -/
def litTail (mt t0 : Nat) (kk q : IntKind) (f : Fr) (tbl : List (Int × Int)) : List Oper → Option (Bool × Fr)
  | [o1, o2, o3, o4] => match movOf o1, movOf o2 with
    | some (t1, .tmp u), some (t2, x) => bif Nat.beq u t0 && !(Nat.beq t1 t2) then (match lookOf mt t1 t2 o3, movOf o4, ev ((t1, .dead) :: (t0, .dead) :: f) x with
      | some t3, some (d, .tmp v), .v (.int k n) => bif Nat.beq v t3 && decide (k = kk) then some (hasK n tbl, (d, .v (.int q (getK n tbl))) :: (t3, .v (.int q (getK n tbl))) :: (t2, .v (.int kk n)) :: (t1, .dead) :: (t0, .dead) :: f) else none
      | _, _, _ => none) else none
    | _, _ => none
  | _ => none
def litIns (mt t0 : Nat) (kk q : IntKind) (f : Fr) : List Oper → List (Int × Int) → Option (Bool × Fr)
  | [], _ => none
  | o :: r, tbl => match insOf mt t0 kk q o with
    | some e => litIns mt t0 kk q f r (e :: tbl)
    | none => litTail mt t0 kk q f tbl (o :: r)
def litK (P : Program) (f : Fr) : List Oper → Option (Bool × Fr)
  | [] => none
  | o :: r => match o.guard, o.dst, o.op with
    | none, some t0, .makeMap mt none => match P.underlying mt with
      | some (.map kt et) => match P.underlying kt, P.underlying et, Sem.val P (zeroValue et) with
        | some (.int kk), some (.int q), some (.int q' z) => bif decide (q' = q) && (decide (z = 0) && Nat.blt r.length 1000) then litIns mt t0 kk q f r [] else none
        | _, _, _ => none
      | _ => none
    | _, _, _ => none

/-! ### a map that is written out and stays: numbers to values -/
def constP : List (Nat × Operand) → Option (List (Nat × Value))
  | [] => some []
  | (i, .const x) :: r => match constP r with
    | some l => some ((i, x) :: l)
    | none => none
  | _ => none
def bldC (P : Program) (o : Oper) : Option (Nat × Value) := match o.guard, o.dst, o.op with
  | none, some d, .build t parts => match constP parts.toList with
    | some vs => match Sem.val P (Instr.build t vs.toArray) with
      | some v => some (d, v)
      | none => none
    | none => none
  | _, _, _ => none
def insV (mt t0 : Nat) (kk : IntKind) (o : Oper) : Option (Int × Operand) := match o.guard, o.dst, o.op with
  | none, none, .insert mt' (.tmp t) (.const (.int k1 a)) x => bif Nat.beq mt' mt && (Nat.beq t t0 && (decide (k1 = kk) && (Lit.int kk a).wf)) then some (a, x) else none
  | _, _, _ => none
def agOk (ag : Bool) (p : PV) : Bool := match p with
  | .agg _ => ag
  | .v _ => !ag
  | _ => false
def movs (f : Fr) : List Oper → Option Fr
  | [] => some f
  | o :: r => match movOf o with
    | some (d, x) => movs ((d, ev f x) :: f) r
    | none => none
def litMi (P : Program) (mt t0 : Nat) (kk : IntKind) (ag : Bool) (sh : Sh) : Fr → List Oper → List (Int × sh.den) → Option Fr
  | _, [], _ => none
  | f, o :: r, tbl => match insV mt t0 kk o with
    | some (a, x) => match sh.parse (pvCells (ev f x)) with
      | some (v, []) => bif agOk ag (ev f x) then litMi P mt t0 kk ag sh f r ((a, v) :: tbl) else none
      | _ => none
    | none => match bldC P o with
      | some (d, v) => bif Nat.beq d t0 then none else litMi P mt t0 kk ag sh ((d, ofV v) :: f) r tbl
      | none => movs ((t0, .mapc kk ag sh tbl) :: f) (o :: r)
def litM (P : Program) (f : Fr) : List Oper → Option Fr
  | [] => none
  | o :: r => match o.guard, o.dst, o.op with
    | none, some t0, .makeMap mt none => match P.underlying mt with
      | some (.map kt et) => match P.underlying kt, shOf P 10 et with
        | some (.int kk), some sh => bif Nat.blt r.length 1000 then litMi P mt t0 kk (isAggT P et) sh ((t0, .dead) :: f) r [] else none
        | _, _ => none
      | _ => none
    | _, _, _ => none

/-- What a step leaves that is not wanted. -/
def undefV : PV := .v (.tuple #[])
def opsK (P : Program) (call : CallK) (alt : List Nat) {R : Type} (all : List Oper) : List Oper → Fr → Sig → (Fr → Sig → Option R) → Option R
  | [], f, σ, k => k f σ
  | o :: r, f, σ, k => match o.guard with
    | none => opK P call (dstIn o alt) f σ o fun p σ' => opsK P call alt all r (f.put o.dst p) σ' k
    | some (j, want) => match gdst all j with
      | none => none
      | some d => match f.get d with
        | .v (.bool t) => sel t
            (sel want (opK P call (dstIn o alt) ((d, .v (.bool true)) :: f) σ o fun p σ' => opsK P call alt all r (Fr.put ((d, .v (.bool true)) :: f) o.dst p) σ' k)
              (opsK P call alt all r (Fr.put ((d, .v (.bool true)) :: f) o.dst undefV) σ k))
            (sel want (opsK P call alt all r (Fr.put ((d, .v (.bool false)) :: f) o.dst undefV) σ k)
              (opK P call (dstIn o alt) ((d, .v (.bool false)) :: f) σ o fun p σ' => opsK P call alt all r (Fr.put ((d, .v (.bool false)) :: f) o.dst p) σ' k))
        | .v (.tuple _) => opsK P call alt all r (f.put o.dst undefV) σ k
        | _ => none

/-- What a step has to do with memory: nothing; it looks (at all of it, at some places, at what kind and how long some places are); it writes (anywhere, into some places, or further places too). -/
inductive Cl where
  | pure | rdAll | wrAll
  | rd (m : Nat)
  | sh (m : Nat)
  | wr (m : Nat)
  | wl (m n : Nat)
def isW : Cl → Bool
  | .wrAll => true
  | .wr _ => true
  | .wl _ _ => true
  | _ => false
/-- Whether what one writes may be what the other looks at, or writes. -/
def hits : Cl → Cl → Bool
  | _, .pure => false
  | .wr m, .rd m' => !(Nat.beq (Nat.land m m') 0)
  | .wr _, .sh _ => false
  | .wl m n, .rd m' => !(Nat.beq (Nat.land m m') 0 && Nat.blt m' (2 ^ n))
  | .wl m n, .sh m' => !(Nat.beq (Nat.land m m') 0 && Nat.blt m' (2 ^ n))
  | _, _ => true
def shC : PV → Cl
  | .own k _ => .sh (2 ^ k)
  | .ref k _ _ _ => .sh (2 ^ k)
  | .apl k _ _ _ => .sh (2 ^ k)
  | .ot k _ _ => .sh (2 ^ k)
  | .rows .. => .pure
  | .v _ => .pure
  | _ => .rdAll
/-- The rows that a value's cells hang on. -/
def mskL : List PV → Nat
  | [] => 0
  | .own k _ :: r => Nat.lor (2 ^ k) (mskL r)
  | .ref k _ _ _ :: r => Nat.lor (2 ^ k) (mskL r)
  | .ot k _ _ :: r => Nat.lor (2 ^ k) (mskL r)
  | _ :: r => mskL r
def mskPs : List (Nat × PV) → Nat
  | [] => 0
  | (_, p) :: r => Nat.lor (mskL (pvCells p)) (mskPs r)
def clsOf (qt : FuncId → List PV → Sig → Cl) (f : Fr) (σ : Sig) (o : Oper) : Cl := match o.op with
  | .store _ a _ => match ev f a with
    | .ptr k _ => .wr (2 ^ k)
    | .rp k _ _ _ => .wr (2 ^ k)
    | .apl k _ _ _ => .wl (2 ^ k) σ.length
    | _ => .wrAll
  | .alloc _ => .wl 0 σ.length
  | .box .. => .wl 0 σ.length
  | .makeSlice .. => .wl 0 σ.length
  | .build _ parts => .sh (mskPs (partsE f parts.toList))
  | .buildSlice _ _ parts => .sh (mskPs (partsE f parts.toList))
  | .convert _ _ x => match ev f x with
    | .v (.string _) => .wl 0 σ.length
    | .v _ => .pure
    | .own k _ => .rd (2 ^ k)
    | .ref k _ _ _ => .rd (2 ^ k)
    | _ => .rdAll
  | .binOp _ _ x _ _ => match ev f x with
    | .bp .. => .rdAll
    | _ => .pure
  | .load _ x => match ev f x with
    | .ep .. => .pure
    | .apr .. => .pure
    | .ptr k _ => .rd (2 ^ k)
    | .rp k _ _ _ => .rd (2 ^ k)
    | .apl k _ _ _ => .rd (2 ^ k)
    | _ => .rdAll
  | .indexAddr _ x _ => shC (ev f x)
  | .fieldAddr _ x _ => match ev f x with
    | .apl k _ _ _ => .sh (2 ^ k)
    | _ => .pure
  | .slice _ x _ _ none => shC (ev f x)
  | .slice _ x _ _ (some _) => match ev f x with
    | .v _ => .pure
    | .rows .. => .pure
    | _ => .rdAll
  | .sliceToArrayPointer _ x => match ev f x with
    | .rows .. => .pure
    | .own k _ => .sh (2 ^ k)
    | .ref k _ _ _ => .sh (2 ^ k)
    | _ => .rdAll
  | .call { callee := .value g, args := args, argTypes := _ } => match ev f g with
    | .fn n caps => qt n (evs f args.toList ++ caps) σ
    | _ => .wrAll
  | .call { callee := .builtin b, args := args, argTypes := _ } => match b with
    | .append => match evs f args.toList with
      | .own k _ :: _ => .wl (2 ^ k) σ.length
      | .ot .. :: _ => .wrAll
      | .v _ :: _ => .wl 0 σ.length
      | .rows .. :: _ => .wl 0 σ.length
      | _ => .wrAll
    | .copy => match evs f args.toList with
      | .own k _ :: _ => .wl (2 ^ k) σ.length
      | .ref k _ _ _ :: _ => .wl (2 ^ k) σ.length
      | _ => .wrAll
    | .clear => .wrAll
    | .unsafeString => .wrAll
    | .min => .pure
    | .max => .pure
    | .len => match evs f args.toList with
      | p :: _ => shC p
      | _ => .rdAll
    | _ => .rdAll
  | _ => .pure

/-- The same of steps that may be told in another way. -/
def clsA (alt : List Nat) (qt : FuncId → List PV → Sig → Cl) (f : Fr) (σ : Sig) (o : Oper) : Cl := bif dstIn o alt then (match o.op with
  | .convert .. => .pure
  | .call { callee := .value _, args := _, argTypes := _ } => .pure
  | .buildSlice .. => .wrAll
  | .slice .. => .wrAll
  | _ => clsOf qt f σ o) else clsOf qt f σ o
def bmOf (acc : List Nat) : List Edge → Nat
  | [] => 0
  | e :: r => bif Region.binds .any e then (2 ^ e.on ||| acc.getD e.on 0) ||| bmOf acc r else bmOf acc r
def bms (acc : List Nat) : List Oper → List Nat
  | [] => acc
  | o :: r => bms (acc ++ [bmOf acc o.after.toList]) r
def edgesOk (i : Nat) : List Edge → Bool
  | [] => true
  | e :: r => (!(Region.binds .any e) || Nat.blt e.on i) && edgesOk i r
def allEdges : Nat → List Oper → Bool
  | _, [] => true
  | i, o :: r => edgesOk i o.after.toList && allEdges (i + 1) r
def tmpsOf : List Operand → List Nat
  | [] => []
  | .tmp t :: r => t :: tmpsOf r
  | _ :: r => tmpsOf r
def readsOf (all : List Oper) (o : Oper) : List Nat := (match o.guard with
  | some (j, _) => match gdst all j with
    | some d => [d]
    | none => []
  | none => []) ++ tmpsOf o.op.operands.toList
def sameDst (o p : Oper) : Bool := match o.dst, p.dst with
  | some d, some e => Nat.beq d e
  | _, _ => false
/-- Two operations of a region, i ahead of j in the text: either in order, or apart. -/
def apartB (all : List Oper) (bm : List Nat) (cls : List Cl) (i j : Nat) : Bool :=
  match all[i]?, all[j]? with
  | some o, some p => !(sameDst o p) && (Nat.testBit (bm.getD j 0) i ||
      (!(dstIn o (readsOf all p)) && !(dstIn p (readsOf all o)) &&
        !((isW (cls.getD i .pure) && hits (cls.getD i .pure) (cls.getD j .pure)) || (isW (cls.getD j .pure) && hits (cls.getD j .pure) (cls.getD i .pure)))))
  | _, _ => true
def pairsB (all : List Oper) (bm : List Nat) (cls : List Cl) (j : Nat) : Nat → Bool
  | 0 => true
  | i + 1 => apartB all bm cls i j && pairsB all bm cls j i
def allPairs (all : List Oper) (bm : List Nat) (cls : List Cl) : Nat → Bool
  | 0 => true
  | j + 1 => pairsB all bm cls j j && allPairs all bm cls j
def selfOk (all : List Oper) : List Oper → Bool
  | [] => true
  | o :: r => !(dstIn o (readsOf all o)) && selfOk all r
def drawOk (all : List Oper) (cls : List Cl) : Bool := allEdges 0 all && (selfOk all all && allPairs all (bms [] all) cls all.length)

/-- The operations of a region whose order is open: as the text has them; what they have to do with memory is kept. -/
def opsD (P : Program) (call : CallK) (alt : List Nat) (qt : FuncId → List PV → Sig → Cl) {R : Type} (all : List Oper) : List Oper → List Cl → Fr → Sig → (List Cl → Fr → Sig → Option R) → Option R
  | [], cl, f, σ, k => k cl f σ
  | o :: r, cl, f, σ, k => match o.guard with
    | none => opK P call (dstIn o alt) f σ o fun p σ' => opsD P call alt qt all r (cl ++ [clsA alt qt f σ o]) (f.put o.dst p) σ' k
    | some (j, want) => match gdst all j with
      | none => none
      | some d => match f.get d with
        | .v (.bool t) => sel t
            (sel want (opK P call (dstIn o alt) ((d, .v (.bool true)) :: f) σ o fun p σ' => opsD P call alt qt all r (cl ++ [clsA alt qt ((d, .v (.bool true)) :: f) σ o]) (Fr.put ((d, .v (.bool true)) :: f) o.dst p) σ' k)
              (opsD P call alt qt all r (cl ++ [.pure]) (Fr.put ((d, .v (.bool true)) :: f) o.dst undefV) σ k))
            (sel want (opsD P call alt qt all r (cl ++ [.pure]) (Fr.put ((d, .v (.bool false)) :: f) o.dst undefV) σ k)
              (opK P call (dstIn o alt) ((d, .v (.bool false)) :: f) σ o fun p σ' => opsD P call alt qt all r (cl ++ [clsA alt qt ((d, .v (.bool false)) :: f) σ o]) (Fr.put ((d, .v (.bool false)) :: f) o.dst p) σ' k))
        | .v (.tuple _) => opsD P call alt qt all r (cl ++ [.pure]) (f.put o.dst undefV) σ k
        | _ => none

/-! ### a region in which a block is laid that only what stands behind the writers looks at -/
def plainZ (P : Program) (t : TypeId) : Option Value := match zeroOf P t with
  | some z => match P.underlying t with
    | some (.array _ _) => none
    | some (.struct fs) => match uniK P fs.toList, bldOf P t with
      | none, none => some z
      | _, _ => none
    | some _ => some z
    | none => none
  | none => none
def isPureC : Cl → Bool
  | .pure => true
  | _ => false
def behindB (bm : List Nat) (cls : List Cl) (j : Nat) : Nat → Bool
  | 0 => true
  | i + 1 => (isPureC (cls.getD i .pure) || Nat.testBit (bm.getD j 0) i) && behindB bm cls j i
def behindAll (bm : List Nat) (cls : List Cl) (z : Nat) : Nat → Bool
  | 0 => true
  | r + 1 => (Nat.testBit (bm.getD (z + 1 + r) 0) z && behindB bm cls (z + 1 + r) z) && behindAll bm cls z r
def pairL (all : List Oper) (bm : List Nat) (cls : List Cl) (z i j : Nat) : Bool := bif Nat.beq j z then (match all[i]?, all[j]? with
  | some o, some p => !(sameDst o p) && (!(dstIn o (readsOf all p)) && !(dstIn p (readsOf all o)))
  | _, _ => true) else apartB all bm cls i j
def pairsL (all : List Oper) (bm : List Nat) (cls : List Cl) (z j : Nat) : Nat → Bool
  | 0 => true
  | i + 1 => pairL all bm cls z i j && pairsL all bm cls z j i
def allPairsL (all : List Oper) (bm : List Nat) (cls : List Cl) (z : Nat) : Nat → Bool
  | 0 => true
  | j + 1 => pairsL all bm cls z j j && allPairsL all bm cls z j
def lateB (P : Program) (all : List Oper) (z : Nat) (cls : List Cl) : Bool := match all[z]? with
  | some o => (match o.op, o.dst, o.guard with
    | .alloc t, some _, none => (plainZ P t).isSome
    | _, _, _ => false) && (allEdges 0 all && (selfOk all all && (allPairsL all (bms [] all) cls z all.length && behindAll (bms [] all) cls z (all.length - (z + 1)))))
  | none => false

/-! ### a region that lays the bytes of several texts: each has its place beforehand -/
def emp : Place := .rows (.int .u8) [] 0
def fil (b : ByteArray) : Place := .rows (.int .u8) (bytesL b) 1
def freshB (P : Program) (f : Fr) (o : Oper) : Option ByteArray := match o.op with
  | .convert s d x => match ev f x with
    | .v (.string b) => match P.underlying s, P.underlying d with
      | some _, some (.slice e) => match P.underlying e with
        | some (.int .u8) => some b
        | _ => none
      | _, _ => none
    | _ => none
  | _ => none
def calmC (n : Nat) (c : Cl) : Bool := !(isW c) && !(hits (.wl 0 n) c)
def opsF (P : Program) (call : CallK) (alt : List Nat) (qt : FuncId → List PV → Sig → Cl) (σ : Sig) {R : Type} : List Oper → Nat → List (Nat × ByteArray) → Fr → (List (Nat × ByteArray) → Fr → Option R) → Option R
  | [], i, fl, f, k => k fl f
  | o :: r, i, fl, f, k => match o.guard with
    | none => match (bif dstIn o alt then none else freshB P f o) with
      | some b => opsF P call alt qt σ r (i + 1) (fl ++ [(i, b)]) (f.put o.dst (.own (σ.length + fl.length) 1)) k
      | none => opK P call (dstIn o alt) f σ o fun p _ => bif calmC σ.length (clsA alt qt f σ o) then opsF P call alt qt σ r (i + 1) fl (f.put o.dst p) k else none
    | some _ => none

inductive Ex where
  | normal | exit (id : Nat) | ret
def sameEx : Ex → Ex → Bool
  | .normal, .normal => true
  | .exit i, .exit j => Nat.beq i j
  | .ret, .ret => true
  | _, _ => false

/-- How a state is made ready: rows out of nothing, rows that are let go, further places that stay. -/
structure Prep where
  mats : List (Nat × Sh)
  cm : List (Nat × (Nat × Sh))
  fz : List Nat
  ex : List Nat
/-- A state at an exit: which temporaries and places count, and of what kinds they are. -/
structure Alt where
  e : Ex
  kp : List Nat
  ts : List Nat
  ks : List AK
  qk : List PK
  preps : List Prep
@[reducible] def Alt.den (A : Alt) : Type := adens A.ks × pdens A.qk
@[reducible] def densO : List Alt → Type
  | [] => Empty
  | [A] => A.den
  | A :: B :: l => A.den ⊕ densO (B :: l)

/-! ### rows that nobody turns any more -/
def frzC (k g : Nat) (r : Sh) (xs : List r.den) (p : PV) : PV := match p with
  | .own k' g' => bif Nat.beq k' k && Nat.beq g' g then .rows false r xs else .own k' g'
  | .ref k' i n g' => bif Nat.beq k' k && Nat.beq g' g then .rows false r ((xs.drop i).take n) else .ref k' i n g'
  | p => p
def frzV (k g : Nat) (r : Sh) (xs : List r.den) (p : PV) : PV := match p with
  | .agg cs => .agg (cs.map (frzC k g r xs))
  | .fn f cs => .fn f (cs.map (frzC k g r xs))
  | .tup vs => .tup vs
  | p => frzC k g r xs p
def frzP (k g : Nat) (r : Sh) (xs : List r.den) (p : Place) : Place := match p with
  | .cells cs => .cells (cs.map (frzC k g r xs))
  | p => p
def frz1 (k : Nat) (f : Fr) (σ : Sig) : Option (Fr × Sig) := match nth σ k with
  | some (.rows r xs g) => some (f.map fun e => (e.1, frzV k g r xs e.2), (σ.map (frzP k g r xs)).set k .dead)
  | _ => none
def frzs : List Nat → Fr → Sig → Option (Fr × Sig)
  | [], f, σ => some (f, σ)
  | k :: l, f, σ => match frz1 k f σ with
    | some (f', σ') => frzs l f' σ'
    | none => none
def mat1 (t : Nat) (s : Sh) (f : Fr) (σ : Sig) : Option (Fr × Sig) := match f.get t with
  | .v (.slice none 0 0) => some ((t, .own σ.length 0) :: f, σ ++ [.rows s [] 0])
  | .rows true s' [] => some ((t, .own σ.length 0) :: f, σ ++ [.rows s [] 0])
  | _ => none
def matsF : List (Nat × Sh) → Fr → Sig → Option (Fr × Sig)
  | [], f, σ => some (f, σ)
  | (t, s) :: l, f, σ => match mat1 t s f σ with
    | some (f', σ') => matsF l f' σ'
    | none => none

def nilC : PV → Bool
  | .v (.slice none 0 0) => true
  | .rows true _ [] => true
  | _ => false
/-- A cell that holds a slice of nothing: a row of one's own. -/
def matO (cs : List PV) (i k : Nat) : PV := match cs with
  | [.bp _ _ _ e2, _] => bif Nat.beq i 1 then .ot k 0 e2 else .own k 0
  | _ => .own k 0
def matC1 (k i : Nat) (s : Sh) (f : Fr) (σ : Sig) : Option (Fr × Sig) := match nth σ k with
  | some (.cells cs) => match nth cs i with
    | some p => bif nilC p then some (f, (σ ++ [Place.rows s [] 0]).set k (Place.cells (cs.set i (matO cs i σ.length)))) else none
    | none => none
  | _ => none
/-- The same of a temporary's cell. -/
def matA1 (t i : Nat) (s : Sh) (f : Fr) (σ : Sig) : Option (Fr × Sig) := match f.get t with
  | .agg cs => match nth cs i with
    | some p => bif nilC p then some ((t, .agg (cs.set i (.own σ.length 0))) :: f, σ ++ [Place.rows s [] 0]) else none
    | none => none
  | _ => none
/-- Places by their numbers, temporaries from a million on. -/
def matX1 (k i : Nat) (s : Sh) (f : Fr) (σ : Sig) : Option (Fr × Sig) := bif Nat.ble 1000000 k then matA1 (k - 1000000) i s f σ else matC1 k i s f σ
def matsC : List (Nat × (Nat × Sh)) → Fr → Sig → Option (Fr × Sig)
  | [], f, σ => some (f, σ)
  | (k, (i, s)) :: l, f, σ => match matX1 k i s f σ with
    | some (f', σ') => matsC l f' σ'
    | none => none

/-! ### states by patterns -/
def zipF : List Nat → List PV → Fr
  | t :: ts, p :: ps => (t, p) :: zipF ts ps
  | _, _ => []
def getsF (f : Fr) : List Nat → List PV
  | [] => []
  | t :: r => f.get t :: getsF f r
def exI (n0 : Nat) (ex : List Nat) (j : Nat) : Nat := bif Nat.blt j n0 then j else (match nth ex (j - n0) with
  | some k => k
  | none => 0)
def exM (σ : Sig) (n0 : Nat) (ex : List Nat) (j : Nat) : Nat × Nat := genI σ (exI n0 ex j)
def notInK (k : Nat) : List Nat → Bool
  | [] => true
  | i :: r => !(Nat.beq i k) && notInK k r
def goneAt (qk : List PK) (k : Nat) : Bool := match nth qk k with
  | some .gone => true
  | _ => false
/-- Further places are taken of those beyond the first ones, or of those that are let go. -/
def exOk (n0 : Nat) (qk : List PK) (len : Nat) : List Nat → Bool
  | [] => true
  | k :: r => (Nat.ble n0 k || goneAt qk k) && (Nat.blt k len && (notInK k r && exOk n0 qk len r))
def decState (n0 : Nat) (ks : List AK) (qk : List PK) (ex : List Nat) (ps : List PV) (σ : Sig) : Option (adens ks × pdens qk) :=
  match decAs (exM σ n0 ex) ks ps with
  | some a => match decPs (exM σ n0 ex) σ 0 qk with
    | some s => bif Nat.ble n0 σ.length && ((Nat.beq qk.length (n0 + ex.length) && exOk n0 qk σ.length ex) && (okAs qk.length ks && okPs qk.length qk)) then some (a, s) else none
    | none => none
  | none => none
def decPrep (n0 : Nat) (ts : List Nat) (ks : List AK) (qk : List PK) (p : Prep) (f : Fr) (σ : Sig) : Option (adens ks × pdens qk) := match matsF p.mats f σ with
  | some (f1, σ1) => match matsC p.cm f1 σ1 with
    | some (f3, σ3) => match frzs p.fz f3 σ3 with
      | some (f2, σ2) => decState n0 ks qk p.ex (getsF f2 ts) σ2
      | none => none
    | none => none
  | none => none
def decPreps (n0 : Nat) (ts : List Nat) (ks : List AK) (qk : List PK) : List Prep → Fr → Sig → Option (adens ks × pdens qk)
  | [], _, _ => none
  | p :: l, f, σ => match decPrep n0 ts ks qk p f σ with
    | some x => some x
    | none => decPreps n0 ts ks qk l f σ
def decAlt (n0 : Nat) (A : Alt) (f : Fr) (σ : Sig) : Option A.den := decPreps n0 A.ts A.ks A.qk A.preps f σ
def decO (n0 : Nat) : (l : List Alt) → Ex → Fr → Sig → Option (densO l)
  | [], _, _, _ => none
  | [A], e, f, σ => bif sameEx e A.e then decAlt n0 A f σ else none
  | A :: B :: l, e, f, σ => match (bif sameEx e A.e then decAlt n0 A f σ else none) with
    | some x => some (.inl x)
    | none => match decO n0 (B :: l) e f σ with
      | some y => some (.inr y)
      | none => none
def encAlt {R : Type} (A : Alt) (kf : Fr) (d : A.den) (k : Fr → Sig → Option R) : Option R := k (zipF A.ts (encAs (resI A.qk) A.ks d.1) ++ kf) (encPs (resI A.qk) 0 A.qk d.2)
def orK {α β R : Type} (t : α ⊕ β) (f : α → Option R) (g : β → Option R) : Option R := match t with
  | .inl a => f a
  | .inr b => g b
/-- One, then the other. -/
def andK {α R : Type} (x : Option α) (k : α → Option R) : Option R := match x with
  | some u => k u
  | none => none
theorem andK_some {α R : Type} {x : Option α} {k : α → Option R} {r : R} (h : andK x k = some r) : ∃ u, x = some u ∧ k u = some r := by
  cases x with
  | none => cases h
  | some u => exact ⟨u, rfl, h⟩
def encO {R : Type} (kf : List Nat → Fr) : (l : List Alt) → densO l → (Ex → Fr → Sig → Option R) → Option R
  | [], t, _ => nomatch t
  | [A], d, k => encAlt A (kf A.kp) d (k A.e)
  | A :: B :: l, t, k => orK t (fun d => encAlt A (kf A.kp) d (k A.e)) (fun d => encO kf (B :: l) d k)

/-! ### temporaries that a piece of code does not write -/
def unwO (t : Nat) : List Oper → Bool
  | [] => true
  | o :: r => (match o.dst with
    | some d => !(Nat.beq d t)
    | none => true) && unwO t r
def unwB (t : Nat) : Code → Bool
  | .region _ ops _ => unwO t ops.toList
  | .seq a b => unwB t a && unwB t b
  | .cond _ a b => unwB t a && unwB t b
  | .block _ a => unwB t a
  | .loop a => unwB t a
  | _ => true
def freeC : PV → Bool
  | .v _ => true
  | .rows .. => true
  | _ => false
def freeV : PV → Bool
  | .v _ => true
  | .rows .. => true
  | .arr .. => true
  | .agg cs => cs.all freeC
  | .fn _ cs => cs.all freeC
  | _ => false
def keptF (c : Code) (f : Fr) : List Nat → Fr
  | [] => []
  | t :: r => bif unwB t c && freeV (f.get t) then (t, f.get t) :: keptF c f r else keptF c f r

/-- What is told of a place in code: nothing; which states leave a piece; those of a loop; that a loop is gone through so often at most. -/
inductive Cut where
  | none
  | join (outs : List Alt)
  | loop (hd : Alt) (outs : List Alt)
  | unroll (n : Nat)
  | alts (ts : List Nat)
abbrev Hints := Nat → Cut
def altsOf : Cut → List Nat
  | .alts ts => ts
  | _ => []

def firstR : Code → Nat
  | .region id _ _ => id
  | .seq a _ => firstR a
  | .block _ a => firstR a
  | .loop a => firstR a
  | .scope a => firstR a
  | _ => 1000000

def loopF (outs : List Alt) (hd : Alt) (n0 : Nat) (kf : Fr) (body : Nat → Fr → Sig → (Ex → Fr → Sig → Option (densO outs)) → Option (densO outs)) : Nat → hd.den → Option (densO outs)
  | 0, _ => none
  | N + 1, s => encAlt hd kf s fun f σ => body N f σ fun e f' σ' => match e with
    | .normal => match decAlt n0 hd f' σ' with
      | some s' => loopF outs hd n0 kf body N s'
      | none => none
    | .exit i => decO n0 outs (.exit i) f' σ'
    | .ret => decO n0 outs .ret f' σ'
def iterK {R : Type} (body : Fr → Sig → (Ex → Fr → Sig → Option R) → Option R) : Nat → Fr → Sig → (Ex → Fr → Sig → Option R) → Option R
  | 0, _, _, _ => none
  | n + 1, f, σ, k => body f σ fun e f' σ' => match e with
    | .normal => iterK body n f' σ' k
    | .exit id => k (.exit id) f' σ'
    | .ret => k .ret f' σ'
def cutK (c : Cut) (n0 : Nat) (kf : List Nat → Fr) (run : (R : Type) → (Ex → Fr → Sig → Option R) → Option R) {R : Type} (k : Ex → Fr → Sig → Option R) : Option R := match c with
  | .join outs => andK (run (densO outs) (decO n0 outs)) fun t => encO kf outs t k
  | _ => run R k

def runK (P : Program) (call : Nat → CallK) (qt : Nat → FuncId → List PV → Sig → Cl) (H : Hints) : Code → (N : Nat) → (R : Type) → Fr → Sig → (Ex → Fr → Sig → Option R) → Option R
  | .skip, N, R, f, σ, k => k .normal f σ
  | .region id ops draw, N, R, f, σ, k => cutK (H (5000000 + id)) σ.length (keptF (.region id ops draw) f) (fun R k => match draw with
    | false => match litK P f ops.toList with
      | some x => chk x.1 (k .normal x.2 σ)
      | none => match litM P f ops.toList with
        | some f' => k .normal f' σ
        | none => opsK P (call N) (altsOf (H (8000000 + id))) ops.toList ops.toList f σ fun f' σ' => k .normal f' σ'
    | true => match H (9000000 + id) with
      | .unroll _ => opsF P (call N) (altsOf (H (8000000 + id))) (qt N) σ ops.toList 0 [] f fun fl f' => chk (drawOk ops.toList []) (k .normal f' ((σ ++ fl.map fun x => fil x.2) ++ List.replicate fl.length .dead))
      | .alts (z :: _) => opsD P (call N) (altsOf (H (8000000 + id))) (qt N) ops.toList ops.toList [] f σ fun cs f' σ' => chk (lateB P ops.toList z cs) (k .normal f' σ')
      | _ => opsD P (call N) (altsOf (H (8000000 + id))) (qt N) ops.toList ops.toList [] f σ fun cs f' σ' => chk (drawOk ops.toList cs) (k .normal f' σ')) k
  | .seq a b, N, R, f, σ, k => cutK (H (firstR b)) σ.length (keptF a f) (fun R k => runK P call qt H a N R f σ k) fun e f' σ' => match e with
    | .normal => runK P call qt H b N R f' σ' k
    | .exit id => k (.exit id) f' σ'
    | .ret => k .ret f' σ'
  | .cond c a b, N, R, f, σ, k => match ev f c with
    | .v (.bool t) => sel t (runK P call qt H a N R f σ k) (runK P call qt H b N R f σ k)
    | _ => none
  | .block id a, N, R, f, σ, k => runK P call qt H a N R f σ fun e f' σ' => match e with
    | .exit i => bif Nat.beq i id then k .normal f' σ' else k (.exit i) f' σ'
    | .normal => k .normal f' σ'
    | .ret => k .ret f' σ'
  | .loop a, N, R, f, σ, k => match H (2000000 + firstR a) with
    | .loop hd outs => match decAlt σ.length hd f σ with
      | some s => andK (loopF outs hd σ.length (keptF (.loop a) f hd.kp) (fun N f σ k => runK P call qt H a N (densO outs) f σ k) N s) fun t => encO (keptF (.loop a) f) outs t k
      | none => none
    | .unroll n => iterK (fun f σ k => runK P call qt H a N R f σ k) n f σ k
    | _ => none
  | .exit id, N, R, f, σ, k => k (.exit id) f σ
  | .ret, N, R, f, σ, k => k .ret f σ
  | _, _, _, _, _, _ => none

/-- A loop by itself. -/
def loopK (P : Program) (call : Nat → CallK) (qt : Nat → FuncId → List PV → Sig → Cl) (H : Hints) (a : Code) (n0 : Nat) (hd : Alt) (outs : List Alt) (kf : Fr) : Nat → hd.den → Option (densO outs) :=
  loopF outs hd n0 kf (fun N f σ k => runK P call qt H a N (densO outs) f σ k)

/-- A piece of code, by its way down: 0 the first part, 1 the second. -/
def codeAt : Code → List Nat → Code
  | c, [] => c
  | .seq a b, i :: r => bif Nat.beq i 0 then codeAt a r else codeAt b r
  | .cond _ a b, i :: r => bif Nat.beq i 0 then codeAt a r else codeAt b r
  | .block _ a, _ :: r => codeAt a r
  | .loop a, _ :: r => codeAt a r
  | _, _ => .skip
def bodyOf (fn : Func) : Code := match fn.body with
  | some c => c
  | none => .skip

def okDsts (n : Nat) : List Oper → Bool
  | [] => true
  | o :: r => (match o.dst with | some d => decide (d < n) | none => true) && okDsts n r
def okCode (n : Nat) : Code → Bool
  | .region _ ops _ => okDsts n ops.toList
  | .seq a b => okCode n a && okCode n b
  | .cond _ a b => okCode n a && okCode n b
  | .block _ a => okCode n a
  | .loop a => okCode n a
  | _ => true

def getRes (P : Program) (f : Fr) (σ : Sig) : List ResultVar → Option (List PV)
  | [] => some []
  | .tmp t :: rs => match getRes P f σ rs with
    | some l => some (f.get t :: l)
    | none => none
  | .cell a t :: rs => match oLoad P t (f.get a) σ with
    | some q => match getRes P f σ rs with
      | some l => some (q.pv :: l)
      | none => none
    | none => none
def packRes : List PV → PV
  | [p] => p
  | l => .tup l

def fnK (P : Program) (call : Nat → CallK) (qt : Nat → FuncId → List PV → Sig → Cl) (H : Hints) {R : Type} (N : Nat) (fn : Func) (args : List PV) (σ : Sig) (k : List PV → Sig → Option R) : Option R :=
  match fn.body with
  | none => none
  | some c => runK P call qt H c N R (Fr.args 0 args) σ fun e f σ' => match e with
    | .exit _ => none
    | .normal => match getRes P f σ' fn.results.toList with
      | some l => k l σ'
      | none => none
    | .ret => match getRes P f σ' fn.results.toList with
      | some l => k l σ'
      | none => none

end Go.Proofs.YthkjjombaoffcaaGreatDoorPM

/- Single operations, reckoned by values, happen. -/
set_option linter.unusedVariables false
set_option linter.unusedSectionVars false
set_option linter.unusedSimpArgs false
noncomputable section
namespace Go.Proofs.YthkjjombaoffcaaGreatDoorPM
open Go Go.RowKit
variable [Foreign]

def OpOk (P : Program) (f : Fr) (σ : Sig) (o : Oper) (p : PV) (σ' : Sig) : Prop :=
  ∀ base pb w (a : Act), St base σ pb w → FR σ pb w f a.tmps → ∀ next Q, (∀ pb' w' y, St base σ' pb' w' → Ext σ pb w σ' pb' w' → VR σ' pb' w' p y → next (a.put o.dst y) w') → o.wp P a w next Q

def VRs (σ : Sig) (pb : Pb) (w : World) : List PV → List Value → Prop
  | [], [] => True
  | p :: ps, y :: ys => VR σ pb w p y ∧ VRs σ pb w ps ys
  | _, _ => False
def FnOk (P : Program) (g : FuncId) (args : List PV) (σ : Sig) (p : PV) (σ' : Sig) : Prop :=
  ∀ base pb w (vals : List Value), St base σ pb w → VRs σ pb w args vals → Calls P g vals.toArray w fun e w' => ∃ pb' y, e = .returned y ∧ St base σ' pb' w' ∧ Ext σ pb w σ' pb' w' ∧ VR σ' pb' w' p y
def Enters (P : Program) (g : FuncId) : Prop := ∀ args w, (callFunc g args).run P w = .ok (.enter g args) w
def CallOk (P : Program) (call : CallK) : Prop :=
  ∀ (R : Type) g args σ (k : PV → Sig → Option R) r, call R g args σ k = some r → ∃ p σ', k p σ' = some r ∧ FnOk P g args σ p σ' ∧ Enters P g

theorem ev_rel {σ : Sig} {pb : Pb} {w : World} {f : Fr} {a : Act} (hf : FR σ pb w f a.tmps) (x : Operand) : VR σ pb w (ev f x) (a.eval x) := by
  cases x with
  | tmp t => exact hf t
  | const x => exact ofV_rel σ pb w x
  | global g => exact trivial
  | func g => exact ⟨[], rfl, trivial⟩
theorem evs_rel {σ : Sig} {pb : Pb} {w : World} {f : Fr} {a : Act} (hf : FR σ pb w f a.tmps) : ∀ l : List Operand, VRs σ pb w (evs f l) (l.map a.eval)
  | [] => trivial
  | x :: l => ⟨ev_rel hf x, evs_rel hf l⟩
theorem wp_value {P : Program} {o : Oper} {a : Act} {w w' : World} {y : Value} {next : Act → World → Prop} {Q : Exit → Act → World → Prop}
    (h : (execOp a.eval o).run P w = .ok (.value y) w') (hn : next (a.put o.dst y) w') : o.wp P a w next Q := by
  unfold Oper.wp; rw [h]; exact hn
theorem wp_skip' {P : Program} {o : Oper} {a : Act} {w w' : World} {next : Act → World → Prop} {Q : Exit → Act → World → Prop}
    (h : (execOp a.eval o).run P w = .ok .skip w') (hn : next (a.put o.dst undef) w') : o.wp P a w next Q := by
  unfold Oper.wp; rw [h]; exact hn

theorem pick_ok {P : Program} {f : Fr} {σ : Sig} {o : Oper} {c x y : Operand} {t : Bool} (ho : o.op = .pick c x y) (ht : ev f c = .v (.bool t)) :
    OpOk P f σ o (if t = true then ev f x else ev f y) σ := by
  intro base pb w a hs hf next Q hq
  have hc := ev_rel hf c
  rw [ht] at hc
  have hc : a.eval c = .bool t := hc
  refine wp_value (w' := w) (y := if t = true then a.eval x else a.eval y) ?_ (hq pb w _ hs (Ext.refl _ _ _) ?_)
  · unfold execOp
    rw [ho]
    simp [hc, asBool]
  · cases t
    · exact ev_rel hf y
    · exact ev_rel hf x

theorem VRs.append {σ : Sig} {pb : Pb} {w : World} : ∀ {ps qs : List PV} {ys zs : List Value}, VRs σ pb w ps ys → VRs σ pb w qs zs → VRs σ pb w (ps ++ qs) (ys ++ zs)
  | [], _, [], _, _, h => h
  | p :: ps, _, y :: ys, _, h, k => ⟨h.1, VRs.append h.2 k⟩
  | [], _, _ :: _, _, h, _ => h.elim
  | _ :: _, _, [], _, h, _ => h.elim
/-- What may be captured, or handed over: cells. -/
theorem CRs.vrs {σ : Sig} {pb : Pb} {w : World} : ∀ {ps : List PV} {ys : List Value}, CRs σ pb w ps ys → VRs σ pb w ps ys
  | [], [], _ => trivial
  | p :: ps, y :: ys, h => ⟨by
      have := h.1
      cases p <;> first | exact this | exact this.elim, CRs.vrs h.2⟩
  | [], _ :: _, h => h.elim
  | _ :: _, [], h => h.elim
theorem call_ok {P : Program} {f : Fr} {σ : Sig} {o : Oper} {g : Operand} {args : Array Operand} {ts : Array TypeId} {n : FuncId} {caps : List PV} {p : PV} {σ' : Sig}
    (ho : o.op = .call { callee := .value g, args := args, argTypes := ts }) (hg : ev f g = .fn n caps) (hf : FnOk P n (evs f args.toList ++ caps) σ p σ') (he : Enters P n) : OpOk P f σ o p σ' := by
  intro base pb w a hs hfr next Q hq
  have hgv := ev_rel hfr g
  rw [hg] at hgv
  obtain ⟨ys, hy, hc⟩ := hgv
  have hrun : (execOp a.eval o).run P w = .ok (.enter n (args.toList.map a.eval ++ ys).toArray) w := by
    unfold execOp
    rw [ho]
    simp only [resolve, hy, Deferred.ofValue]
    have := he ((args.toList.map a.eval ++ ys).toArray) w
    simp [invoke]
    rw [← this]
    congr 2
    apply Array.ext'
    simp
  unfold Oper.wp
  rw [hrun]
  refine Calls.mono (hf base pb w _ hs ((evs_rel hfr args.toList).append hc.vrs)) ?_
  rintro e w' ⟨pb', y, rfl, h1, h2, h3⟩
  exact hq pb' w' y h1 h2 h3

theorem forS_rel {σ : Sig} {pb : Pb} {w : World} {P : Program} {n : String} {ps : List PV} {c : Bool} {p : PV} {vals : List Value} (h : forS n ps = some (c, p)) (h1 : c = true) (hv : VRs σ pb w ps vals) :
    ∃ y, VR σ pb w p y ∧ ((n = "math.Float64bits" ∧ (Extern.MathFloatBits.float64bits vals.toArray).run P w = .ok y w) ∨ (n = "math.Float64frombits" ∧ (Extern.MathFloatBits.float64frombits vals.toArray).run P w = .ok y w) ∨ (n = "math.sqrt" ∧ (Extern.MathSqrt.sqrt vals.toArray).run P w = .ok y w) ∨ (n = "internal/abi.NoEscape" ∧ (Extern.AbiNoEscape.same vals.toArray).run P w = .ok y w) ∨ (n = "internal/bytealg.IndexByteString" ∧ (Extern.BytealgIndexByte.indexByte vals.toArray).run P w = .ok y w)) := by
  unfold forS at h
  split at h
  · rename_i x
    match vals, hv with
    | [v], ⟨hv, _⟩ =>
      obtain rfl : v = .float .f64 x := hv
      cases e1 : n == "math.Float64bits" with
      | true =>
        rw [e1] at h
        cases h
        exact ⟨_, rfl, .inl ⟨by simpa using e1, rfl⟩⟩
      | false =>
        rw [e1] at h
        cases e2 : n == "math.sqrt" with
        | false => rw [e2] at h; cases h
        | true =>
          rw [e2] at h
          cases h
          refine ⟨_, rfl, .inr (.inr (.inl ⟨by simpa using e2, ?_⟩))⟩
          obtain ⟨q, hq⟩ := Option.isSome_iff_exists.1 (show (FloatKind.f64.format.sqrt x).isSome = true from h1)
          unfold fSq
          rw [hq]
          show Sem.run P (match FloatKind.f64.format.sqrt x with
            | some r => (pure (Value.float .f64 r) : Sem Value)
            | none => do pure (Value.float .f64 (← choose (.nanBits .f64 x x)))) w = _
          rw [hq]
          rfl
    | [], hv => exact hv.elim
    | _ :: _ :: _, hv => exact hv.2.elim
  · rename_i s c'
    match vals, hv with
    | [v, v2], ⟨hv, hv2, _⟩ =>
      obtain rfl : v = .string s := hv
      obtain rfl : v2 = .int .u8 c' := hv2
      cases e1 : n == "internal/bytealg.IndexByteString" with
      | true =>
        rw [e1] at h
        cases h
        exact ⟨_, rfl, .inr (.inr (.inr (.inr ⟨by simpa using e1, run_indexByte_string s c' w⟩)))⟩
      | false => rw [e1] at h; cases h
    | [], hv => exact hv.elim
    | [_], hv => exact hv.2.elim
    | _ :: _ :: _ :: _, hv => exact hv.2.2.elim
  · rename_i k o
    match vals, hv with
    | [v], ⟨hv, _⟩ =>
      cases e1 : n == "internal/abi.NoEscape" with
      | true =>
        rw [e1] at h
        cases h
        exact ⟨v, hv, .inr (.inr (.inr (.inl ⟨by simpa using e1, rfl⟩)))⟩
      | false => rw [e1] at h; cases h
    | [], hv => exact hv.elim
    | _ :: _ :: _, hv => exact hv.2.elim
  · rename_i x
    match vals, hv with
    | [v], ⟨hv, _⟩ =>
      obtain rfl : v = .int .u64 x := hv
      cases e1 : n == "math.Float64frombits" with
      | true =>
        rw [e1] at h
        cases h
        refine ⟨_, rfl, .inr (.inl ⟨by simpa using e1, ?_⟩)⟩
        rw [fB_eq]
        rfl
      | false => rw [e1] at h; cases h
    | [], hv => exact hv.elim
    | _ :: _ :: _, hv => exact hv.2.elim
  · cases h
/-- A name that no row bears which goes on. -/
theorem forN_next {fn : Func} (h : (Extern.allNextRows.lookup fn.name).isNone = true) (he : Extern.allNextRows.lookup "" = none) (ho : fn.origin = "" ∨ fn.origin = fn.name) : Extern.findNext fn = none := by
  have h' : Extern.allNextRows.lookup fn.name = none := by simpa using h
  unfold Extern.findNext
  rcases ho with e | e <;> rw [e] <;> simp [h', he]
theorem for_look {fn : Func} {n : String} {e : Array Value → Sem Value} (hn : fn.name = n) (h1 : Extern.allGenericRows.lookup n = none) (h2 : Extern.allTypedRows.lookup n = none) (h3 : Extern.allRows.lookup n = some e) : Extern.find fn = some e := by
  unfold Extern.find
  rw [hn]
  simp [h1, h2, h3]
theorem next_nil : Extern.allNextRows.lookup "" = none := by kernel_rfl
theorem oFor_run {σ : Sig} {pb : Pb} {w : World} {P : Program} {g : FuncId} {ps : List PV} {c : Bool} {p : PV} {vals : List Value} (h : oFor P g ps = some (c, p)) (h1 : c = true) (hv : VRs σ pb w ps vals) :
    ∃ y, (callFunc g vals.toArray).run P w = .ok (.value y) w ∧ VR σ pb w p y := by
  unfold oFor at h
  split at h
  · rename_i fn hf
    cases hb : fn.body.isNone && (fn.origin == "" || fn.origin == fn.name) with
    | false => rw [hb] at h; cases h
    | true =>
      rw [hb] at h
      simp only [Bool.and_eq_true, Bool.or_eq_true, beq_iff_eq] at hb
      obtain ⟨y, hy, hh⟩ := forS_rel (P := P) h h1 hv
      refine ⟨y, ?_, hy⟩
      have fin : ∀ e : Array Value → Sem Value, (fn.name == "runtime.NumGoroutine") = false → Extern.findNext fn = none → Extern.find fn = some e → (e vals.toArray).run P w = .ok y w → (callFunc g vals.toArray).run P w = .ok (.value y) w := by
        intro e e1 e2 e3 e4
        rw [run_callFunc_extern hf e1 hb.1 e2 e3, e4]
        rfl
      rcases hh with ⟨hn, hr⟩ | ⟨hn, hr⟩ | ⟨hn, hr⟩ | ⟨hn, hr⟩ | ⟨hn, hr⟩
      · exact fin _ (by rw [hn]; kernel_rfl) (forN_next (by rw [hn]; kernel_rfl) next_nil hb.2) (for_look hn (by kernel_rfl) (by kernel_rfl) (by kernel_rfl)) hr
      · exact fin _ (by rw [hn]; kernel_rfl) (forN_next (by rw [hn]; kernel_rfl) next_nil hb.2) (for_look hn (by kernel_rfl) (by kernel_rfl) (by kernel_rfl)) hr
      · exact fin _ (by rw [hn]; kernel_rfl) (forN_next (by rw [hn]; kernel_rfl) next_nil hb.2) (for_look hn (by kernel_rfl) (by kernel_rfl) (by kernel_rfl)) hr
      · exact fin _ (by rw [hn]; kernel_rfl) (forN_next (by rw [hn]; kernel_rfl) next_nil hb.2) (for_look hn (by kernel_rfl) (by kernel_rfl) (by kernel_rfl)) hr
      · exact fin _ (by rw [hn]; kernel_rfl) (forN_next (by rw [hn]; kernel_rfl) next_nil hb.2) (for_look hn (by kernel_rfl) (by kernel_rfl) (by kernel_rfl)) hr
  · cases h
theorem for_ok {P : Program} {f : Fr} {σ : Sig} {o : Oper} {g : Operand} {args : Array Operand} {ts : Array TypeId} {n : FuncId} {caps : List PV} {c : Bool} {p : PV}
    (ho : o.op = .call { callee := .value g, args := args, argTypes := ts }) (hg : ev f g = .fn n caps) (hf : oFor P n (evs f args.toList ++ caps) = some (c, p)) (h1 : c = true) : OpOk P f σ o p σ := by
  intro base pb w a hs hfr next Q hq
  have hgv := ev_rel hfr g
  rw [hg] at hgv
  obtain ⟨ys, hy, hc⟩ := hgv
  obtain ⟨y, hrun, hv⟩ := oFor_run hf h1 ((evs_rel hfr args.toList).append hc.vrs)
  refine wp_value (w' := w) (y := y) ?_ (hq pb w _ hs (Ext.refl _ _ _) hv)
  unfold execOp
  rw [ho]
  simp only [resolve, hy, Deferred.ofValue]
  simp [invoke]
  rw [← hrun]
  congr 2
  apply Array.ext'
  simp

theorem fin_value {P : Program} {base : Nat} {σ : Sig} {pb : Pb} {w : World} {o : Oper} {a : Act} {s : Sem Value} {t : Tri} (he : execOp a.eval o = (do pure (Next.value (← s)))) (h : SemOk P base σ pb w s t) {next : Act → World → Prop} {Q : Exit → Act → World → Prop}
    (hq : ∀ pb' w' y, St base t.σ pb' w' → Ext σ pb w t.σ pb' w' → VR t.σ pb' w' t.pv y → next (a.put o.dst y) w') : o.wp P a w next Q := by
  obtain ⟨pb', w', z, h1, h2, h3, h4⟩ := h
  refine wp_value (w' := w') (y := z) ?_ (hq pb' w' z h2 h3 h4)
  rw [he, Sem.run_bind, h1]
  rfl

theorem partsE_rel {σ : Sig} {pb : Pb} {w : World} {f : Fr} {a : Act} (hf : FR σ pb w f a.tmps) (l : List (Nat × Operand)) :
    (partsE f l).length = (l.map fun p => (p.1, a.eval p.2)).length ∧ ∀ (i n : Nat) (p : PV), (partsE f l)[i]? = some (n, p) → ∃ v, (l.map fun p => (p.1, a.eval p.2))[i]? = some (n, v) ∧ VR σ pb w p v := by
  refine ⟨by simp [partsE], fun i n p h => ?_⟩
  simp only [partsE, List.getElem?_map] at h ⊢
  cases hl : l[i]? with
  | none => rw [hl] at h; cases h
  | some q =>
    rw [hl] at h
    cases h
    exact ⟨_, rfl, ev_rel hf _⟩

theorem optR_rel {σ : Sig} {pb : Pb} {w : World} {f : Fr} {a : Act} (hf : FR σ pb w f a.tmps) (x : Option Operand) : OptR σ pb w (x.map (ev f)) (x.map a.eval) := by
  cases x with
  | none => trivial
  | some x => exact ev_rel hf x

theorem isCell_crs {σ : Sig} {pb : Pb} {w : World} : ∀ {ps : List PV} {ys : List Value}, ps.all isCell = true → VRs σ pb w ps ys → CRs σ pb w ps ys
  | [], [], _, _ => trivial
  | p :: ps, y :: ys, h, hv => by
    simp only [List.all_cons, Bool.and_eq_true] at h
    refine ⟨?_, isCell_crs h.2 hv.2⟩
    have := hv.1
    have h1 := h.1
    cases p <;> first | exact this | exact absurd h1 (by simp [isCell])
  | [], _ :: _, _, hv => hv.elim
  | _ :: _, [], _, hv => hv.elim

theorem minmax_ok {P : Program} {base : Nat} {σ : Sig} {pb : Pb} {w : World} {mx : Bool} {ts : Array TypeId} {ty : TypeId} {ps : List PV} {ys : List Value} {tr : Tri} (h : oMinMax mx ps σ = some tr) (hs : St base σ pb w) (hp : VRs σ pb w ps ys) :
    SemOk P base σ pb w (if mx = true then Builtin.max_ ts ty ys.toArray else Builtin.min_ ts ty ys.toArray) tr := by
  unfold oMinMax at h
  split at h
  · rename_i k a r
    split at h
    · rename_i n hn
      cases h
      cases ys with
      | nil => exact hp.elim
      | cons y ys =>
        have hy : y = .int k a := hp.1
        subst hy
        have hc : CRs σ pb w r ys := by
          have := hp.2
          clear hp
          have key : ∀ (r : List PV) (a : Int) (n : Int) (ys : List Value), mmL mx k a r = some n → VRs σ pb w r ys → CRs σ pb w r ys := by
            intro r
            induction r with
            | nil => intro a n ys _ h; cases ys with
              | nil => exact trivial
              | cons => exact h.elim
            | cons p r ih =>
              intro a n ys hm h
              cases ys with
              | nil => exact h.elim
              | cons y ys =>
                unfold mmL at hm
                split at hm
                · rename_i e; cases e
                · rename_i e
                  cases e
                  exact ⟨h.1, ih _ _ _ hm h.2⟩
                · cases hm
          exact key _ _ _ _ hn this
        have := mmL_ok (P := P) hn hc
        refine SemOk.stay hs (z := .int k n) ?_ rfl
        cases mx
        · simpa [Builtin.min_] using this
        · simpa [Builtin.max_] using this
    · cases h
  · cases h

theorem builtin_ok {P : Program} {base : Nat} {σ : Sig} {pb : Pb} {w : World} {o : Oper} {a : Act} {b : Builtin} {args : Array Operand} {ts : Array TypeId} {f : Fr} {t : Tri} (ho : o.op = .call { callee := .builtin b, args := args, argTypes := ts })
    (h : oBuiltin P b ts.toList (evs f args.toList) σ = some t) (h1 : t.ok = true) (hs : St base σ pb w) (hf : FR σ pb w f a.tmps) {next : Act → World → Prop} {Q : Exit → Act → World → Prop}
    (hq : ∀ pb' w' y, St base t.σ pb' w' → Ext σ pb w t.σ pb' w' → VR t.σ pb' w' t.pv y → next (a.put o.dst y) w') : o.wp P a w next Q := by
  have hv := evs_rel hf args.toList
  have hargs : args.map a.eval = (args.toList.map a.eval).toArray := by apply Array.ext'; simp
  unfold oBuiltin at h
  split at h
  · rename_i t0 rest p hts hps
    rw [hps] at hv
    match hl : args.toList.map a.eval, hv with
    | [y], hv =>
      have h0 : ts[0]? = some t0 := by rw [← Array.getElem?_toList, hts]; rfl
      refine fin_value (s := Builtin.len_ ts o.type #[y]) ?_ (len_ok h0 h hs hv.1) hq
      unfold execOp
      rw [ho]
      simp only [resolve, hargs, hl]
      rfl
    | [], hv => exact hv.elim
    | _ :: _ :: _, hv => exact hv.2.elim
  · rename_i t0 u0 rest p q hts hps
    rw [hps] at hv
    match hl : args.toList.map a.eval, hv with
    | [y, z], hv =>
      have h0 : ts[0]? = some t0 := by rw [← Array.getElem?_toList, hts]; rfl
      have h1' : ts[1]? = some u0 := by rw [← Array.getElem?_toList, hts]; rfl
      refine fin_value (s := Builtin.append_ ts o.type #[y, z]) ?_ (append_ok h0 h1' h h1 hs hv.1 hv.2.1) hq
      unfold execOp
      rw [ho]
      simp only [resolve, hargs, hl]
      rfl
    | [], hv => exact hv.elim
    | [_], hv => exact hv.2.elim
    | _ :: _ :: _ :: _, hv => exact hv.2.2.elim
  · have := minmax_ok (P := P) (ts := ts) (ty := o.type) h hs hv
    rw [if_neg (by simp)] at this
    refine fin_value (s := Builtin.min_ ts o.type (args.toList.map a.eval).toArray) ?_ this hq
    unfold execOp
    rw [ho]
    simp only [resolve, hargs]
    rfl
  · have := minmax_ok (P := P) (ts := ts) (ty := o.type) h hs hv
    rw [if_pos rfl] at this
    refine fin_value (s := Builtin.max_ ts o.type (args.toList.map a.eval).toArray) ?_ this hq
    unfold execOp
    rw [ho]
    simp only [resolve, hargs]
    rfl
  · rename_i t0 rest p q hts hps
    rw [hps] at hv
    match hl : args.toList.map a.eval, hv with
    | [y, z], hv =>
      have h0 : ts[0]? = some t0 := by rw [← Array.getElem?_toList, hts]; rfl
      refine fin_value (s := Builtin.copy_ ts o.type #[y, z]) ?_ (copy_ok h0 h hs hv.1 hv.2.1) hq
      unfold execOp
      rw [ho]
      simp only [resolve, hargs, hl]
      rfl
    | [], hv => exact hv.elim
    | [_], hv => exact hv.2.elim
    | _ :: _ :: _ :: _, hv => exact hv.2.2.elim
  · rename_i t0 rest p hts hps
    rw [hps] at hv
    match hl : args.toList.map a.eval, hv with
    | [y], hv =>
      have h0 : ts[0]? = some t0 := by rw [← Array.getElem?_toList, hts]; rfl
      refine fin_value (s := Builtin.clear_ ts o.type #[y]) ?_ (clear_ok h0 h hs hv.1) hq
      unfold execOp
      rw [ho]
      simp only [resolve, hargs, hl]
      rfl
    | [], hv => exact hv.elim
    | _ :: _ :: _, hv => exact hv.2.elim
  · rename_i p hps
    rw [hps] at hv
    match hl : args.toList.map a.eval, hv with
    | [y], hv =>
      refine fin_value (s := Builtin.unsafeSliceData_ ts o.type #[y]) ?_ (sliceData_ok h h1 hs hv.1) hq
      unfold execOp
      rw [ho]
      simp only [resolve, hargs, hl]
      rfl
    | [], hv => exact hv.elim
    | _ :: _ :: _, hv => exact hv.2.elim
  · rename_i t0 it0 p q hts hps
    rw [hps] at hv
    match hl : args.toList.map a.eval, hv with
    | [y, z], hv =>
      have e2 : ts = #[t0, it0] := by apply Array.ext'; rw [hts]
      subst e2
      refine fin_value (s := Builtin.unsafeString_ #[t0, it0] o.type #[y, z]) ?_ (uString_ok h h1 hs hv.1 hv.2.1) hq
      unfold execOp
      rw [ho]
      simp only [resolve, hargs, hl]
      rfl
    | [], hv => exact hv.elim
    | [_], hv => exact hv.2.elim
    | _ :: _ :: _ :: _, hv => exact hv.2.2.elim
  · rename_i t0 rest p hts hps
    rw [hps] at hv
    match hl : args.toList.map a.eval, hv with
    | [y], hv =>
      have h0 : ts[0]? = some t0 := by rw [← Array.getElem?_toList, hts]; rfl
      unfold oCap at h
      split at h
      · rename_i e hu hv2
        cases h
        have hy : y = .slice none 0 0 := hv.1
        subst hy
        have hso : SemOk P base σ pb w (Builtin.cap_ ts o.type #[.slice none 0 0]) ⟨true, intV 0, σ⟩ := SemOk.stay hs (z := .int .i64 0) (by unfold Builtin.cap_; simp [h0, und_run hu, goInt]) rfl
        refine fin_value (s := Builtin.cap_ ts o.type #[.slice none 0 0]) ?_ hso hq
        unfold execOp
        rw [ho]
        simp only [resolve, hargs, hl]
        rfl
      · cases h
    | [], hv => exact hv.elim
    | _ :: _ :: _, hv => exact hv.2.elim
  · cases h

theorem stp_ok {P : Program} {f : Fr} {σ : Sig} {o : Oper} {t : Tri} (ht : stp P f σ o = some t) (h1 : t.ok = true) : OpOk P f σ o t.pv t.σ := by
  intro base pb w a hs hf next Q hq
  unfold stp at ht
  split at ht
  · rename_i x ho
    cases ht
    exact wp_value (by unfold execOp; rw [ho]; rfl) (hq pb w _ hs (Ext.refl _ _ _) (ev_rel hf x))
  · rename_i x ho
    cases ht
    exact wp_value (by unfold execOp; rw [ho]; rfl) (hq pb w _ hs (Ext.refl _ _ _) (ev_rel hf x))
  · rename_i x ho
    have hv := ev_rel hf x
    obtain ⟨rfl, hy⟩ := nil_ok ht hv
    refine wp_value (y := a.eval x) ?_ (hq pb w _ hs (Ext.refl _ _ _) hv)
    unfold execOp
    rw [ho]
    rcases hy with ⟨ad, e⟩ | ⟨g, c, e⟩ <;> simp only [e] <;> rfl
  · rename_i s x i ho
    exact fin_value (by unfold execOp; rw [ho]) (fieldAddr_ok ht hs (ev_rel hf x)) hq
  · rename_i s x i ho
    exact fin_value (by unfold execOp; rw [ho]) (field_ok ht hs (ev_rel hf x)) hq
  · rename_i s x ho
    exact fin_value (by unfold execOp; rw [ho]) (load_ok ht hs (ev_rel hf x)) hq
  · rename_i s x y ho
    obtain ⟨w', a1, a2, a3, a4⟩ := store_ok ht h1 hs (ev_rel hf x) (ev_rel hf y)
    refine wp_skip' (w' := w') ?_ (hq pb w' undef a2 a3 (by rw [a4]; trivial))
    unfold execOp
    rw [ho]
    show (do Instr.storeAt s (a.eval x) (a.eval y); pure Next.skip : Sem Next).run P w = _
    rw [Sem.run_bind, a1]
    rfl
  · rename_i s ho
    exact fin_value (by unfold execOp; rw [ho]) (alloc_ok ht hs) hq
  · rename_i s x ho
    exact fin_value (by unfold execOp; rw [ho]) (box_ok ht h1 hs (ev_rel hf x)) hq
  · rename_i s parts ho
    obtain ⟨e1, e2⟩ := partsE_rel hf parts.toList
    have ht' : SemOk P base σ pb w (Instr.build s (parts.toList.map fun p => (p.1, a.eval p.2)).toArray) t := by
      cases hb : isArrT P s with
      | true => rw [hb] at ht; exact buildArr_ok ht hs e1 e2
      | false => rw [hb] at ht; exact build_ok ht hs e1 e2
    refine fin_value (s := Instr.build s (parts.toList.map fun p => (p.1, a.eval p.2)).toArray) ?_ ht' hq
    unfold execOp
    rw [ho]
    simp only
    congr 2
    apply Array.ext'
    simp
  · rename_i s x i ho
    exact fin_value (by unfold execOp; rw [ho]) (indexAddr_ok ht h1 hs (ev_rel hf x) (ev_rel hf i)) hq
  · rename_i s x i ho
    exact fin_value (by unfold execOp; rw [ho]) (index_ok ht h1 hs (ev_rel hf x) (ev_rel hf i)) hq
  · rename_i s x i c ho
    exact fin_value (by unfold execOp; rw [ho]) (lookup_ok ht h1 hs (ev_rel hf x) (ev_rel hf i)) hq
  · rename_i s x lo hi ho
    exact fin_value (by unfold execOp; rw [ho]; rfl) (slice_ok ht h1 hs (ev_rel hf x) (optR_rel hf lo) (optR_rel hf hi)) hq
  · rename_i s x lo hi mx ho
    exact fin_value (by unfold execOp; rw [ho]; rfl) (slice3_ok ht h1 hs (ev_rel hf x) (optR_rel hf lo) (ev_rel hf hi) (ev_rel hf mx)) hq
  · rename_i x i ho
    exact fin_value (by unfold execOp; rw [ho]) (extract_ok ht hs (ev_rel hf x)) hq
  · rename_i g first captured ho
    split at ht
    · rename_i hc
      cases ht
      have hv := isCell_crs hc.2 (evs_rel hf captured.toList)
      refine wp_value (y := .func (.func g) #[] (captured.toList.map a.eval).toArray) ?_ (hq pb w _ hs (Ext.refl _ _ _) ⟨_, rfl, hv⟩)
      unfold execOp
      rw [ho]
      have : first = #[] := Array.eq_empty_of_size_eq_zero hc.1
      subst this
      simp [Instr.makeFunc]
      apply Array.ext'
      simp
    · cases ht
  · rename_i s x ho
    exact fin_value (by unfold execOp; rw [ho]) (arrayAt_ok ht h1 hs (ev_rel hf x)) hq
  · rename_i s d x ho
    exact fin_value (by unfold execOp; rw [ho]) (convert_ok ht h1 hs (ev_rel hf x)) hq
  · rename_i s l c ho
    exact fin_value (by unfold execOp; rw [ho]) (makeSlice_ok ht h1 hs (ev_rel hf l) (ev_rel hf c)) hq
  · rename_i s n parts ho
    obtain ⟨e1, e2⟩ := partsE_rel hf parts.toList
    refine fin_value (s := Instr.buildSlice s n (parts.toList.map fun p => (p.1, a.eval p.2)).toArray) ?_ (buildSlice_ok ht hs e1 e2) hq
    unfold execOp
    rw [ho]
    simp only
    congr 2
    apply Array.ext'
    simp
  · rename_i op s x y yt ho
    have hx := ev_rel hf x
    split at ht
    · rename_i c k e e2 hb
      rw [hb] at hx
      exact fin_value (by unfold execOp; rw [ho]) (binB_ok ht hs hx (ev_rel hf y)) hq
    · exact fin_value (by unfold execOp; rw [ho]) (bin_ok ht h1 hs hx (ev_rel hf y)) hq
  · rename_i op s x ho
    exact fin_value (by unfold execOp; rw [ho]) (un_ok ht hs (ev_rel hf x)) hq
  · rename_i b args ts ho
    exact builtin_ok ho ht h1 hs hf hq
  · cases ht

theorem mat_stepN {t : Nat} {s : Sh} {f : Fr} {σ : Sig} {y0 : PV} (hy : f.get t = y0) (hy0 : y0 = .v (.slice none 0 0) ∨ ∃ s', y0 = .rows true s' []) {base : Nat} {pb : Pb} {w : World} {tmps : Array Value} (hs : St base σ pb w) (hf : FR σ pb w f tmps) :
    St base (σ ++ [.rows s [] 0]) (pb ++ [none]) w ∧ Ext σ pb w (σ ++ [.rows s [] 0]) (pb ++ [none]) w ∧ FR (σ ++ [.rows s [] 0]) (pb ++ [none]) w ((t, .own σ.length 0) :: f) tmps := by
  have hl := hs.len
  have he : Ext σ pb w (σ ++ [.rows s [] 0]) (pb ++ [none]) w := by
    refine ⟨rfl, rfl, rfl, Nat.le_refl _, ⟨fun b hb => ⟨⟨hb.1, fun hm => ?_, hb.2.2⟩, rfl⟩, fun _ _ => rfl⟩, fun b c e f h => ⟨c, f, h, rfl, fun x => x⟩, PlExt.snoc σ pb hl _ _⟩
    rcases List.mem_append.mp hm with h | h
    · exact hb.2.1 h
    · simp at h
  refine ⟨⟨hs.bs, by simp [hl], fun i j b hi hj => ?_, fun i b hi => ?_, fun b hb => ⟨(hs.frn b hb).1, fun hm => ?_⟩, fun k p q hk hq => ?_⟩, he, fun u => ?_⟩
  · have hlt : ∀ (i b : Nat), (pb ++ [none])[i]? = some (some b) → pb[i]? = some (some b) := by
      intro i b h
      by_cases q : i < pb.length
      · rwa [List.getElem?_append_left q] at h
      · rw [List.getElem?_append_right (by omega)] at h
        have : i - pb.length = 0 := by have := (List.getElem?_eq_some_iff.mp h).1; simp at this; omega
        rw [this] at h
        simp at h
    exact hs.inj i j b (hlt _ _ hi) (hlt _ _ hj)
  · by_cases q : i < pb.length
    · rw [List.getElem?_append_left q] at hi; exact hs.bnd i b hi
    · rw [List.getElem?_append_right (by omega)] at hi
      have : i - pb.length = 0 := by have := (List.getElem?_eq_some_iff.mp hi).1; simp at this; omega
      rw [this] at hi
      simp at hi
  · rcases List.mem_append.mp hm with h | h
    · exact (hs.frn b hb).2 h
    · simp at h
  · by_cases q1 : k < σ.length
    · rw [List.getElem?_append_left q1] at hk
      rw [List.getElem?_append_left (by omega)] at hq
      exact PlaceR.ext he (fun _ _ => rfl) (hs.pl k p q hk hq)
    · rw [List.getElem?_append_right (by omega)] at hk
      rw [List.getElem?_append_right (by omega)] at hq
      have : k - σ.length = 0 := by have := (List.getElem?_eq_some_iff.mp hk).1; simp at this; omega
      rw [this] at hk
      rw [show k - pb.length = 0 by omega] at hq
      simp at hk hq
      subst hk
      subst hq
      rfl
  · simp only [Fr.get]
    by_cases e : t = u
    · subst e
      rw [show Nat.beq t t = true from Nat.beq_refl t]
      have hv := hf t
      rw [hy] at hv
      have : ∃ a, tmps.getD t undef = .slice a 0 0 := by
        rcases hy0 with rfl | ⟨s', rfl⟩
        · exact ⟨none, hv⟩
        · obtain ⟨a, cap, e1, _, e2, _⟩ := hv
          have := e2 rfl
          simp at this
          subst this
          exact ⟨a, e1⟩
      obtain ⟨a, ea⟩ := this
      refine ⟨by simp, fun r xs g' hk => ?_⟩
      rw [List.getElem?_append_right (Nat.le_refl _)] at hk
      simp at hk
      obtain ⟨rfl, hk, rfl⟩ := hk
      obtain rfl := eq_of_heq hk
      refine ⟨Nat.le_refl _, fun _ => .inr ⟨?_, rfl, a, ea⟩⟩
      rw [List.getElem?_append_right (by omega), hl]
      simp
    · have hne : Nat.beq t u = false := by
        cases hb : Nat.beq t u
        · rfl
        · exact absurd (Nat.eq_of_beq_eq_true hb) e
      rw [hne]
      exact (hf u).ext he
theorem mat_step {t : Nat} {s : Sh} {f : Fr} {σ : Sig} {y0 : PV} (hy : f.get t = y0) (hy0 : y0 = .v (.slice none 0 0) ∨ ∃ s', y0 = .rows true s' []) {base : Nat} {pb : Pb} {w : World} {tmps : Array Value} (hs : St base σ pb w) (hf : FR σ pb w f tmps) :
    ∃ pb', St base (σ ++ [.rows s [] 0]) pb' w ∧ Ext σ pb w (σ ++ [.rows s [] 0]) pb' w ∧ FR (σ ++ [.rows s [] 0]) pb' w ((t, .own σ.length 0) :: f) tmps := ⟨_, mat_stepN hy hy0 hs hf⟩

end Go.Proofs.YthkjjombaoffcaaGreatDoorPM

/- Steps that may be told in another way. -/
set_option linter.unusedVariables false
set_option linter.unusedSectionVars false
set_option linter.unusedSimpArgs false
noncomputable section
namespace Go.Proofs.YthkjjombaoffcaaGreatDoorPM
open Go Go.RowKit
variable [Foreign]

variable {P : Program} {base : Nat} {σ : Sig} {pb : Pb} {w : World}

theorem conv_rows {s d e : TypeId} {b : ByteArray} {us : TypeDesc} (hus : P.underlying s = some us) (hd : P.underlying d = some (.slice e)) (he : P.underlying e = some (.int .u8)) (hs : St base σ pb w) :
    SemOk P base σ pb w (convert s d (.string b)) ⟨true, .rows false (.int .u8) (bytesL b), σ⟩ := by
  have hW : Push w (Lib.bytesWorld w e b) (.cells (Lib.bytesCells w e b) e ((Lib.bytesCells w e b).size, (Lib.bytesCells w e b).size + 1)) :=
    ⟨rfl, rfl, rfl, Lib.bytesWorld_size w e b, fun j hj => Lib.bytesWorld_at_old w e b j hj, Lib.bytesWorld_at_new w e b⟩
  have hlen : (bytesL b).length = b.size := by simp [bytesL]
  have hcap : b.size ≤ grownCap w b.size 0 e := by unfold grownCap; exact Nat.le_add_right _ _
  obtain ⟨h1, h2, him⟩ := push_ext' hW hs
  refine ⟨pb, _, _, Lib.run_convert_string_bytes w s d e b hus hd he, h2, h1, some ⟨w.heap.size, 0, none⟩, grownCap w b.size 0 e, by rw [hlen], by rw [hlen]; exact hcap, fun e => (by cases e), fun i hi => ?_⟩
  refine ⟨w.heap.size, 0, [.int .u8 (bytesL b)[i]], rfl, him, rfl, fun j hj => ?_, rfl⟩
  simp only [Sh.n] at hj ⊢
  have : j = 0 := by omega
  subst this
  rw [cell_mk _ _ _ hW.new]
  have hi' : i < b.data.size := by rw [hlen] at hi; exact hi
  have hi2 : i < b.size := hi'
  simp [Lib.bytesCells, Array.getElem?_append, hi', hi2, bytesL]

theorem setCells_len : ∀ (l : List PV) (cs : List PV) (o : Nat), (setCells cs o l).length = cs.length
  | [], cs, o => rfl
  | x :: r, cs, o => by simp only [setCells]; rw [setCells_len r]; simp
theorem fillP_len : ∀ {l : List (Nat × Nat × PV)} {cs cs' : List PV}, fillP σ cs l = some cs' → cs'.length = cs.length
  | [], cs, cs', h => by cases h; rfl
  | (o, s, p) :: r, cs, cs', h => by
    simp only [fillP] at h
    split at h
    · rw [fillP_len h, setCells_len]
    · cases h
theorem lit_own {t : TypeId} {n : Nat} {parts : List (Nat × PV)} {vals : List (Nat × Value)} {c full : Bool} {r : Sh} {xs : List r.den} {σ' : Sig} (h : oBuildSlice P t n parts σ = some ⟨c, .rows full r xs, σ'⟩) (hs : St base σ pb w)
    (hp : parts.length = vals.length) (hv : ∀ (i n : Nat) (p : PV), parts[i]? = some (n, p) → ∃ v, vals[i]? = some (n, v) ∧ VR σ pb w p v) : SemOk P base σ pb w (Instr.buildSlice t n vals.toArray) ⟨true, .own σ.length 0, σ ++ [.rows r xs 0]⟩ := by
  unfold oBuildSlice at h
  split at h
  · rename_i e hu
    split at h
    · rename_i r z hsh hz
      split at h
      · rename_i hc
        obtain ⟨hel, h24, hzc⟩ := hc
        obtain ⟨esz, hrn, ti, hti⟩ := elOk_spec hel
        split at h
        · rename_i cs hf
          split at h
          · rename_i xs hpa
            cases h
            have hzr : CRs σ pb w (zeroCellsP z) z.cells.toList := by
              cases z with
              | agg c => exact CRs.map_v' _ _ _ _
              | _ => exact ⟨rfl, trivial⟩
            have hzl : z.cells.toList.length = szOf P e := by rw [← hzr.length, hzc]
            have hflat : ∀ m, CRs σ pb w ((List.replicate m (zeroCellsP z)).flatten) ((List.replicate m z.cells.toList).flatten) := by
              intro m
              induction m with
              | zero => exact trivial
              | succ m ih => simp only [List.replicate_succ, List.flatten_cons]; exact hzr.append ih
            obtain ⟨ys', a1, a2⟩ := fill_ok (σ := σ) (pb := pb) (w := w) (place := fun i => some (i * szOf P e, szOf P e)) (parts := vals) hf (hflat n) (by simpa using hp) (fun i o s p hi => by
              rw [List.getElem?_map] at hi
              cases hq : parts[i]? with
              | none => rw [hq] at hi; cases hi
              | some q =>
                obtain ⟨m, p'⟩ := q
                rw [hq] at hi
                simp at hi
                obtain ⟨rfl, rfl, rfl⟩ := hi
                obtain ⟨v, v1, v2⟩ := hv i m _ hq
                exact ⟨m, v, v1, rfl, v2⟩)
            obtain ⟨hlen, hels⟩ := parseAll_els hrn n hpa a2
            have hcl : ys'.length = n * szOf P e := by
              have h1 := a2.length
              rw [← h1, fillP_len hf]
              simp [List.length_flatten, hzc]
            obtain ⟨he, hst⟩ := push_place hs (.rows r xs 0) (.cells ys'.toArray e) (fun σ' pb' he' => ⟨_, _, _, pushW_new _ _, fun o ho h => by simp only at h; omega, by simp; rw [hcl, hlen, esz]; exact Nat.le_refl _, fun i hi => by
              obtain ⟨vs, q1, q2, q3⟩ := (hels.mono he'.keeps) i hi
              exact ⟨vs, q1, fun j hj => by rw [← q2 j hj]; simp, q3⟩⟩)
            refine ⟨_, pushW w (.cells ys'.toArray e), .slice (some ⟨w.heap.size, 0, none⟩) n n, ?_, hst, he, by simp, fun r' xs' g' hk => ?_⟩
            · have hrange : ((Array.range (n * szOf P e)).map fun i => z.cells[i % z.cells.size]!) = ((List.replicate n z.cells.toList).flatten).toArray := by
                apply Array.ext'
                rw [← range_flatten z.cells.toList default n]
                simp only [Array.toList_map, Array.toList_range, hzl]
                have : z.cells.size = szOf P e := by rw [← hzl]; simp
                rw [this]
                apply List.map_congr_left
                intro i _
                simp [Array.getElem!_eq_getD, List.getD_eq_getElem?_getD, Array.getD_eq_getD_getElem?]
              unfold Instr.buildSlice
              rw [Sem.run_bind, und_run hu, Result.andThen_ok]
              simp only
              rw [Sem.run_bind, size_run hti, Result.andThen_ok]
              rw [if_neg (by omega)]
              by_cases h0 : n * szOf P e = 0
              · simp only [h0, if_true]
                have : ((List.replicate n z.cells.toList).flatten).toArray = (Array.range 0).map fun i => (#[] : Array Value)[i % 0]! := by
                  rw [← hrange, h0]; apply Array.ext'; simp
                rw [this] at a1
                simp at a1 ⊢
                simp [a1, newRow, pushW]
              · simp only [h0, if_false]
                simp [zero_run hz, hrange, a1, newRow, pushW]
            · rw [List.getElem?_append_right (Nat.le_refl _)] at hk
              simp at hk
              obtain ⟨rfl, hk, rfl⟩ := hk
              obtain rfl := eq_of_heq hk
              refine ⟨Nat.le_refl _, fun _ => .inl ⟨w.heap.size, n, ?_, by rw [hlen], by omega, ⟨_, _, _, pushW_new _ _, by simp; rw [hcl, esz]; exact Nat.le_refl _, CapOk.of (by have := Nat.le_mul_of_pos_right n (show 0 < szOf P e by omega); omega)⟩⟩⟩
              rw [List.getElem?_append_right (by rw [hs.len]; exact Nat.le_refl _), hs.len]
              simp
          · cases h
        · cases h
      · cases h
    · cases h
  · cases h

/-- The beginning of an own row, as the row. -/
theorem cut_own {t e : TypeId} {r : Sh} {k g : Nat} {xs : List r.den} {q : PV} {n : Int} {y : Value} {z : Value} (hu : P.underlying t = some (.slice e)) (hel : elOk P e r = true) (hk : σ[k]? = some (.rows r xs g)) (hn : asI q = some n)
    (h0 : 0 ≤ n) (h1 : n ≤ xs.length) (hs : St base σ pb w) (hv : VR σ pb w (.own k g) y) (hz : VR σ pb w q z) :
    SemOk P base σ pb w (Instr.sliceAt t y none (some z) none) ⟨true, .own k (g + 1), σ.set k (.rows r (xs.take n.toNat) (g + 1))⟩ := by
  obtain ⟨hlt, hv⟩ := hv
  have hal : Alike (.rows r xs g) (.rows r (xs.take n.toNat) (g + 1)) := ⟨rfl, by omega, fun e => by omega⟩
  have he : Ext σ pb w (σ.set k (.rows r (xs.take n.toNat) (g + 1))) pb w := ⟨rfl, rfl, rfl, Nat.le_refl _, Keeps.refl _ _, fun b c e f h => ⟨c, f, h, rfl, fun x => x⟩, PlExt.set hk hal⟩
  have hself : (σ.set k (.rows r (xs.take n.toNat) (g + 1)))[k]? = some (.rows r (xs.take n.toNat) (g + 1)) := by simp [hlt]
  have hpl : ∀ o, pb[k]? = some o → PlaceR σ pb w (.rows r xs g) o → PlaceR (σ.set k (.rows r (xs.take n.toNat) (g + 1))) pb w (.rows r (xs.take n.toNat) (g + 1)) o := by
    intro o _ h
    cases o with
    | none =>
      have h : xs = [] := h
      subst h
      show List.take n.toNat [] = []
      simp
    | some b =>
      obtain ⟨c, e', f, a1, a2, a3, a4⟩ := h
      have hm : (xs.take n.toNat).length ≤ xs.length := by simp; omega
      refine ⟨c, e', f, a1, a2, Nat.le_trans (Nat.mul_le_mul_right _ hm) a3, fun i hi => ?_⟩
      obtain ⟨vs, b1, b2, b3⟩ := a4 i (by omega)
      refine ⟨vs, b1, b2, ?_⟩
      rw [List.getElem_take]
      exact b3
  have hst : St base (σ.set k (.rows r (xs.take n.toNat) (g + 1))) pb w := by
    refine ⟨hs.bs, by simpa using hs.len, hs.inj, hs.bnd, hs.frn, fun i q q' hi' hq' => ?_⟩
    by_cases eik : i = k
    · subst eik
      rw [hself] at hi'
      cases hi'
      exact hpl q' hq' (hs.pl i _ q' hk hq')
    · rw [show (σ.set k (.rows r (xs.take n.toNat) (g + 1)))[i]? = σ[i]? by simp [List.getElem?_set, Ne.symm eik]] at hi'
      exact PlaceR.ext he (fun _ _ => rfl) (hs.pl i q q' hi' hq')
  have hhi : LoIs (some z) xs.length n := high_rel (lo := some q) (l := some z) (σ := σ) (pb := pb) (w := w) hn hz
  have hlo : LoIs none 0 0 := low_rel (lo := none) (l := none) (σ := σ) (pb := pb) (w := w) rfl trivial
  rcases (hv _ _ _ hk).2 rfl with ⟨bl, cap, hb', rfl, hcap, hblk⟩ | ⟨hpb, hx, a0, rfl⟩
  · have hb := bounds_run (P := P) (w := w) true xs.length cap none (some z) 0 n hlo hhi (Int.le_refl _) h0 h1 hcap
    have hrun := slice_run (a0 := some ⟨bl, 0, none⟩) hu hel hb
    refine ⟨pb, w, _, hrun, hst, he, by simpa using hlt, fun r' xs' g' hk' => ?_⟩
    rw [hself] at hk'
    cases hk'
    refine ⟨Nat.le_refl _, fun _ => .inl ⟨bl, cap, hb', ?_, ?_, hblk⟩⟩
    · have e1 : (xs.take n.toNat).length = n.toNat := by simp; omega
      rw [e1]
      simp [add_mk]
    · simp; omega
  · subst hx
    have hn0 : n = 0 := by simp at h1; omega
    subst hn0
    have hb := bounds_run (P := P) (w := w) true 0 0 none (some z) 0 0 hlo hhi (Int.le_refl _) (Int.le_refl _) (Int.le_refl _) (Nat.le_refl _)
    have hrun := slice_run (a0 := a0) hu hel hb
    refine ⟨pb, w, _, hrun, hst, he, by simpa using hlt, fun r' xs' g' hk' => ?_⟩
    rw [hself] at hk'
    cases hk'
    exact ⟨Nat.le_refl _, fun _ => .inr ⟨hpb, by simp, a0, by simp⟩⟩

theorem oAlt_ok {f : Fr} {o : Oper} {t : Tri} (ht : oAlt P f σ o = some t) (h1 : t.ok = true) : OpOk P f σ o t.pv t.σ := by
  intro base pb w a hs hf next Q hq
  unfold oAlt at ht
  split at ht
  · rename_i s d x ho
    split at ht
    · rename_i b hx
      split at ht
      · rename_i us e hus hd
        split at ht
        · rename_i he
          cases ht
          have hy : a.eval x = .string b := by have := ev_rel hf x; rw [hx] at this; exact this
          refine fin_value (s := convert s d (a.eval x)) (by unfold execOp; rw [ho]) ?_ hq
          rw [hy]
          exact conv_rows hus hd he hs
        · cases ht
      · cases ht
    · cases ht
  · rename_i s n parts ho
    split at ht
    · rename_i c full r xs σ' hb
      cases ht
      obtain ⟨e1, e2⟩ := partsE_rel hf parts.toList
      refine fin_value (s := Instr.buildSlice s n (parts.toList.map fun p => (p.1, a.eval p.2)).toArray) ?_ (lit_own hb hs e1 e2) hq
      unfold execOp
      rw [ho]
      simp only
      congr 2
      apply Array.ext'
      simp
    · cases ht
  · rename_i t' x hi ho
    split at ht
    · rename_i k g n hx hn
      split at ht
      · rename_i e r xs g' hu hk
        split at ht
        · rename_i hc
          cases ht
          simp only [Bool.and_eq_true, decide_eq_true_eq] at h1
          obtain ⟨rfl, hel⟩ := hc
          have hv := ev_rel hf x
          rw [hx] at hv
          exact fin_value (s := Instr.sliceAt t' (a.eval x) none (some (a.eval hi)) none) (by unfold execOp; rw [ho]; rfl) (cut_own hu hel hk hn h1.1 h1.2 hs hv (ev_rel hf hi)) hq
        · cases ht
      · cases ht
    · cases ht
  · cases ht

end Go.Proofs.YthkjjombaoffcaaGreatDoorPM

/- What is reckoned by values happens: regions, code, loops, functions. -/
set_option linter.unusedVariables false
set_option linter.unusedSectionVars false
set_option linter.unusedSimpArgs false
noncomputable section
namespace Go.Proofs.YthkjjombaoffcaaGreatDoorPM
open Go Go.RowKit
variable [Foreign]

variable {P : Program} {call : CallK} {H : Hints} {R : Type}

theorem nbeq {a b : Nat} (h : a ≠ b) : Nat.beq a b = false := by
  cases hb : Nat.beq a b
  · rfl
  · exact absurd (Nat.eq_of_beq_eq_true hb) h

theorem opK_sound (hc : CallOk P call) {al : Bool} {f : Fr} {σ : Sig} {o : Oper} {k : PV → Sig → Option R} {r : R} (h : opK P call al f σ o k = some r) :
    ∃ p σ', k p σ' = some r ∧ OpOk P f σ o p σ' := by
  unfold opK at h
  split at h
  · rename_i c x y ho
    split at h
    · rename_i t ht
      cases t with
      | true => exact ⟨_, _, h, pick_ok ho ht⟩
      | false => exact ⟨_, _, h, pick_ok ho ht⟩
    · cases h
  · rename_i g args ts ho
    split at h
    · rename_i n caps hg
      cases al with
      | true =>
        simp only [cond_true] at h
        split at h
        · rename_i c p hq
          obtain ⟨h1, h2⟩ := chk_some h
          exact ⟨p, σ, h2, for_ok ho hg hq h1⟩
        · cases h
      | false =>
        obtain ⟨p, σ', hk, hf, he⟩ := hc _ _ _ _ _ _ h
        exact ⟨p, σ', hk, call_ok ho hg hf he⟩
    · cases h
  · split at h
    · rename_i t ht
      obtain ⟨h1, h2⟩ := chk_some h
      cases al with
      | false => exact ⟨_, _, h2, stp_ok ht h1⟩
      | true => exact ⟨_, _, h2, oAlt_ok ht h1⟩
    · cases h

theorem FR.put {σ : Sig} {pb : Pb} {w : World} {f : Fr} {a : Act} (h : FR σ pb w f a.tmps) {d : Option Nat} {p : PV} {y : Value} (hd : ∀ t, d = some t → t < a.tmps.size) (hp : VR σ pb w p y) :
    FR σ pb w (f.put d p) (a.put d y).tmps := by
  cases d with
  | none => exact h
  | some d =>
    intro t
    have hd := hd d rfl
    simp only [Fr.put, Fr.get, Act.put]
    by_cases e : d = t
    · subst e
      rw [show Nat.beq d d = true from Nat.beq_refl d]
      simpa [Array.getD_eq_getD_getElem?, hd] using hp
    · rw [nbeq e]
      have := h t
      simpa [Array.getD_eq_getD_getElem?, Array.getElem?_setIfInBounds, e] using this
theorem Act.put_size (a : Act) (d : Option Nat) (y : Value) : (a.put d y).tmps.size = a.tmps.size := by
  cases d <;> simp [Act.put]
theorem Act.put_defers (a : Act) (d : Option Nat) (y : Value) : (a.put d y).defers = a.defers := by
  cases d <;> simp [Act.put]
/-- What is kept beside what is written. -/
def Kp (l : List Oper) (a a' : Act) : Prop := a'.defers = a.defers ∧ ∀ t, unwO t l = true → a'.tmps.getD t undef = a.tmps.getD t undef
theorem Kp.refl (l : List Oper) (a : Act) : Kp l a a := ⟨rfl, fun _ _ => rfl⟩
theorem unwO_mem {t : Nat} {l : List Oper} (h : unwO t l = true) : ∀ o ∈ l, o.dst ≠ some t := by
  induction l with
  | nil => intro o ho; cases ho
  | cons x l ih =>
    intro o ho
    simp only [unwO, Bool.and_eq_true] at h
    rcases List.mem_cons.1 ho with rfl | ho
    · intro e
      rw [e] at h
      simp at h
    · exact ih h.2 o ho
theorem put_tmps {a : Act} {d : Option Nat} {y : Value} {t : Nat} (h : d ≠ some t) : (a.put d y).tmps.getD t undef = a.tmps.getD t undef := by
  cases d with
  | none => rfl
  | some d =>
    have : d ≠ t := fun e => h (by rw [e])
    simp [Act.put, Array.getD_eq_getD_getElem?, Array.getElem?_setIfInBounds, this]
theorem Kp.cons {o : Oper} {l : List Oper} {a a' : Act} {y : Value} (h : Kp l (a.put o.dst y) a') : Kp (o :: l) a a' :=
  ⟨by rw [h.1, Act.put_defers], fun t ht => by
    have h1 := unwO_mem ht o (List.mem_cons_self ..)
    simp only [unwO, Bool.and_eq_true] at ht
    rw [h.2 t ht.2, put_tmps h1]⟩
theorem Kp.put {o : Oper} {l : List Oper} {a a' : Act} {y : Value} (h : Kp l a a') (ho : o ∈ l) : Kp l a (a'.put o.dst y) :=
  ⟨by rw [Act.put_defers, h.1], fun t ht => by rw [put_tmps (unwO_mem ht o ho), h.2 t ht]⟩
theorem VR.dead (σ : Sig) (pb : Pb) (w : World) (y : Value) : VR σ pb w .dead y := trivial

/-- A piece that goes on: from a state to a state. -/
def GoOn (P : Program) (n : Nat) (f : Fr) (σ : Sig) (f' : Fr) (σ' : Sig) (W : (Act → World → Prop) → (Exit → Act → World → Prop) → Act → World → Prop) : Prop :=
  ∀ base pb w a, St base σ pb w → FR σ pb w f a.tmps → a.tmps.size = n → ∀ next Q,
    (∀ pb' w' (a' : Act), St base σ' pb' w' → Ext σ pb w σ' pb' w' → FR σ' pb' w' f' a'.tmps → a'.tmps.size = n → a'.defers = a.defers → next a' w') → W next Q a w

theorem yielded_none {σ : Sig} {pb : Pb} {w : World} {g : Fr} {a : Act} {all : List Oper} {j d : Nat} {u : Array Value} (hj : gdst all j = some d) (hd : g.get d = .v (.tuple u)) (hf : FR σ pb w g a.tmps) : yielded all.toArray a.tmps j = none := by
  have hv := hf d
  rw [hd] at hv
  have hv : a.tmps.getD d undef = .tuple u := hv
  unfold yielded
  unfold gdst at hj
  have : (all.toArray[j]?) = all[j]? := by simp
  rw [this]
  cases hal : all[j]? with
  | none => rfl
  | some z =>
    rw [hal] at hj
    simp only at hj
    rw [Array.getD_eq_getD_getElem?] at hv
    cases he : a.tmps[d]? with
    | none => simp [hj, he]
    | some y =>
      rw [he] at hv
      have hv : y = .tuple u := hv
      simp [hj, he, hv]
theorem opsK_sound (hc : CallOk P call) {alt : List Nat} (n : Nat) (all : List Oper) : ∀ (l : List Oper) (f : Fr) (σ : Sig) (k : Fr → Sig → Option R) (r : R), opsK P call alt all l f σ k = some r → okDsts n l = true →
    ∃ f' σ', k f' σ' = some r ∧ ∀ base pb w (a : Act), St base σ pb w → FR σ pb w f a.tmps → a.tmps.size = n → ∀ Q,
      (∀ pb' w' (a' : Act), St base σ' pb' w' → Ext σ pb w σ' pb' w' → FR σ' pb' w' f' a'.tmps → a'.tmps.size = n → Kp l a a' → Q .normal a' w') → wpList P all.toArray Q l a w := by
  intro l
  induction l with
  | nil =>
    intro f σ k r h _
    exact ⟨f, σ, h, fun base pb w a hs hf hn Q hq => hq pb w a hs (Ext.refl _ _ _) hf hn (Kp.refl _ _)⟩
  | cons o l ih =>
    intro f σ k r h hd
    simp only [okDsts, Bool.and_eq_true] at hd
    have hdo : ∀ t, o.dst = some t → t < n := by intro t ht; have := hd.1; rw [ht] at this; simpa using this
    have one : ∀ (f : Fr) (h : opK P call (dstIn o alt) f σ o (fun p σ' => opsK P call alt all l (f.put o.dst p) σ' k) = some r), ∃ f' σ', k f' σ' = some r ∧ ∀ base pb w (a : Act), St base σ pb w → FR σ pb w f a.tmps → a.tmps.size = n → ∀ Q,
        (∀ pb' w' (a' : Act), St base σ' pb' w' → Ext σ pb w σ' pb' w' → FR σ' pb' w' f' a'.tmps → a'.tmps.size = n → Kp (o :: l) a a' → Q .normal a' w') → o.wp P a w (wpList P all.toArray Q l) Q := by
      intro f h
      obtain ⟨p, σ1, h1, hok⟩ := opK_sound hc h
      obtain ⟨f', σ', h2, hl⟩ := ih _ _ _ _ h1 hd.2
      refine ⟨f', σ', h2, fun base pb w a hs hf hn Q hq => hok base pb w a hs hf _ _ fun pb1 w1 y hs1 he1 hv1 => ?_⟩
      refine hl base pb1 w1 (a.put o.dst y) hs1 (FR.put (hf.ext he1) (fun t ht => by rw [hn]; exact hdo t ht) hv1) (by rw [Act.put_size, hn]) Q fun pb' w' a' hs' he' hf' hn' hd' => ?_
      exact hq pb' w' a' hs' (he1.trans he') hf' hn' hd'.cons
    have skip : ∀ (f : Fr) (h : opsK P call alt all l (f.put o.dst undefV) σ k = some r), ∃ f' σ', k f' σ' = some r ∧ ∀ base pb w (a : Act), St base σ pb w → FR σ pb w f a.tmps → a.tmps.size = n → ∀ Q,
        (∀ pb' w' (a' : Act), St base σ' pb' w' → Ext σ pb w σ' pb' w' → FR σ' pb' w' f' a'.tmps → a'.tmps.size = n → Kp (o :: l) a a' → Q .normal a' w') → wpList P all.toArray Q l (a.put o.dst undef) w := by
      intro f h
      obtain ⟨f', σ', h2, hl⟩ := ih _ _ _ _ h hd.2
      refine ⟨f', σ', h2, fun base pb w a hs hf hn Q hq => hl base pb w (a.put o.dst undef) hs (FR.put hf (fun t ht => by rw [hn]; exact hdo t ht) rfl) (by rw [Act.put_size, hn]) Q fun pb' w' a' hs' he' hf' hn' hd' => ?_⟩
      exact hq pb' w' a' hs' he' hf' hn' hd'.cons
    unfold opsK at h
    cases hg : o.guard with
    | none =>
      rw [hg] at h
      obtain ⟨f', σ', h2, hl⟩ := one f h
      refine ⟨f', σ', h2, fun base pb w a hs hf hn Q hq => ?_⟩
      unfold wpList
      rw [if_pos (by simp [Region.wanted, hg])]
      exact .inl (hl base pb w a hs hf hn Q hq)
    | some jw =>
      obtain ⟨j, want⟩ := jw
      rw [hg] at h
      simp only at h
      cases hj : gdst all j with
      | none => rw [hj] at h; cases h
      | some d =>
        rw [hj] at h
        simp only at h
        split at h
        · rename_i t ht
          have hy : ∀ {pb : Pb} {w : World} {a : Act}, FR σ pb w f a.tmps → yielded all.toArray a.tmps j = some t ∧ FR σ pb w ((d, .v (.bool t)) :: f) a.tmps := by
            intro pb w a hf
            have hv := hf d
            rw [ht] at hv
            have hv : a.tmps.getD d undef = .bool t := hv
            have hlt : a.tmps[d]? = some (.bool t) := by
              rw [Array.getD_eq_getD_getElem?] at hv
              cases he : a.tmps[d]? with
              | none => rw [he] at hv; cases hv
              | some z => rw [he] at hv; exact congrArg some hv
            refine ⟨?_, fun u => ?_⟩
            · unfold yielded
              unfold gdst at hj
              have : (all.toArray[j]?) = all[j]? := by simp
              rw [this]
              cases hal : all[j]? with
              | none => rw [hal] at hj; cases hj
              | some z =>
                rw [hal] at hj
                simp only at hj
                simp [hj, hlt]
            · simp only [Fr.get]
              by_cases e : d = u
              · subst e; rw [show Nat.beq d d = true from Nat.beq_refl d]; exact hv
              · rw [nbeq e]; exact hf u
          cases t <;> cases want <;> simp only [sel] at h
          · obtain ⟨f', σ', h2, hl⟩ := one _ h
            refine ⟨f', σ', h2, fun base pb w a hs hf hn Q hq => ?_⟩
            obtain ⟨y1, y2⟩ := hy hf
            unfold wpList
            rw [if_pos (by simp [Region.wanted, hg, y1])]
            exact .inl (hl base pb w a hs y2 hn Q hq)
          · obtain ⟨f', σ', h2, hl⟩ := skip _ h
            refine ⟨f', σ', h2, fun base pb w a hs hf hn Q hq => ?_⟩
            obtain ⟨y1, y2⟩ := hy hf
            unfold wpList
            rw [if_neg (by simp [Region.wanted, hg, y1])]
            exact hl base pb w a hs y2 hn Q hq
          · obtain ⟨f', σ', h2, hl⟩ := skip _ h
            refine ⟨f', σ', h2, fun base pb w a hs hf hn Q hq => ?_⟩
            obtain ⟨y1, y2⟩ := hy hf
            unfold wpList
            rw [if_neg (by simp [Region.wanted, hg, y1])]
            exact hl base pb w a hs y2 hn Q hq
          · obtain ⟨f', σ', h2, hl⟩ := one _ h
            refine ⟨f', σ', h2, fun base pb w a hs hf hn Q hq => ?_⟩
            obtain ⟨y1, y2⟩ := hy hf
            unfold wpList
            rw [if_pos (by simp [Region.wanted, hg, y1])]
            exact .inl (hl base pb w a hs y2 hn Q hq)
        · rename_i u ht
          obtain ⟨f', σ', h2, hl⟩ := skip _ h
          refine ⟨f', σ', h2, fun base pb w a hs hf hn Q hq => ?_⟩
          have y1 : yielded all.toArray a.tmps j = none := yielded_none hj ht hf
          unfold wpList
          rw [if_neg (by simp [Region.wanted, hg, y1])]
          exact hl base pb w a hs hf hn Q hq
        · cases h

end Go.Proofs.YthkjjombaoffcaaGreatDoorPM

/- A region whose order is open happens as it is reckoned in the text's order. -/
set_option linter.unusedVariables false
set_option linter.unusedSectionVars false
set_option linter.unusedSimpArgs false
noncomputable section
namespace Go.Proofs.YthkjjombaoffcaaGreatDoorPM
open Go Go.RowKit
variable [Foreign]

variable {P : Program} {call : CallK} {R : Type}

/-! ### steps look at their operands alone -/
theorem evs_congr {f g : Fr} : ∀ {l : List Operand}, (∀ x ∈ l, ev f x = ev g x) → evs f l = evs g l
  | [], _ => rfl
  | x :: l, h => by simp only [evs]; rw [h x (List.mem_cons_self ..), evs_congr (fun y hy => h y (List.mem_cons_of_mem _ hy))]
theorem parts_congr {f g : Fr} {l : List (Nat × Operand)} (h : ∀ x ∈ l.map (·.2), ev f x = ev g x) : partsE f l = partsE g l := by
  unfold partsE
  apply List.map_congr_left
  intro p hp
  rw [h p.2 (List.mem_map_of_mem hp)]

theorem stp_congr {f g : Fr} {σ : Sig} {o : Oper} (h : ∀ x ∈ o.op.operands.toList, ev f x = ev g x) : stp P f σ o = stp P g σ o := by
  unfold stp
  generalize o.op = op at h ⊢
  cases op with
  | build t parts =>
    simp only
    rw [parts_congr (f := f) (g := g) (fun x hx => h x (by simpa [Op.operands] using hx))]
  | buildSlice t n parts =>
    simp only
    rw [parts_congr (f := f) (g := g) (fun x hx => h x (by simpa [Op.operands] using hx))]
  | slice t x lo hi mx =>
    have hx := h x (by simp [Op.operands])
    have h1 : lo.map (ev f) = lo.map (ev g) := by
      cases lo with
      | none => rfl
      | some y => simp only [Option.map_some]; rw [h y (by simp [Op.operands])]
    have h2 : hi.map (ev f) = hi.map (ev g) := by
      cases hi with
      | none => rfl
      | some y => simp only [Option.map_some]; rw [h y (by simp [Op.operands])]
    cases mx with
    | none => simp only [hx, h1, h2]
    | some m => cases hi with
      | none => rfl
      | some y => simp only [hx, h1, h y (by simp [Op.operands]), h m (by simp [Op.operands])]
  | makeFunc fn first captured =>
    cases fn <;> simp only
    rw [evs_congr (f := f) (g := g) (fun x hx => h x (by simp [Op.operands]; right; simpa using hx))]
  | call c =>
    obtain ⟨callee, args, ts⟩ := c
    cases callee <;> simp only
    rw [evs_congr (f := f) (g := g) (fun x hx => h x (by simp [Op.operands, Call.operands]; simpa using hx))]
  | move x => simp only [h x (by simp [Op.operands])]
  | assign x => simp only [h x (by simp [Op.operands])]
  | nilCheck x => simp only [h x (by simp [Op.operands])]
  | fieldAddr t x i => simp only [h x (by simp [Op.operands])]
  | field t x i => simp only [h x (by simp [Op.operands])]
  | load t x => simp only [h x (by simp [Op.operands])]
  | store t x y => simp only [h x (by simp [Op.operands]), h y (by simp [Op.operands])]
  | box t x => simp only [h x (by simp [Op.operands])]
  | indexAddr t x y => simp only [h x (by simp [Op.operands]), h y (by simp [Op.operands])]
  | index t x y => simp only [h x (by simp [Op.operands]), h y (by simp [Op.operands])]
  | lookup t x y c => simp only [h x (by simp [Op.operands]), h y (by simp [Op.operands])]
  | extract x i => simp only [h x (by simp [Op.operands])]
  | sliceToArrayPointer t x => simp only [h x (by simp [Op.operands])]
  | convert s d x => simp only [h x (by simp [Op.operands])]
  | makeSlice t x y => simp only [h x (by simp [Op.operands]), h y (by simp [Op.operands])]
  | binOp op t x y yt => simp only [h x (by simp [Op.operands]), h y (by simp [Op.operands])]
  | unOp op t x => simp only [h x (by simp [Op.operands])]
  | _ => rfl

theorem oAlt_congr {f g : Fr} {σ : Sig} {o : Oper} (h : ∀ x ∈ o.op.operands.toList, ev f x = ev g x) : oAlt P f σ o = oAlt P g σ o := by
  unfold oAlt
  generalize o.op = op at h ⊢
  cases op with
  | convert s d x => simp only [h x (by simp [Op.operands])]
  | buildSlice t n parts =>
    simp only
    rw [parts_congr (f := f) (g := g) (fun x hx => h x (by simpa [Op.operands] using hx))]
  | slice t x lo hi mx =>
    have hx := h x (by simp [Op.operands])
    cases lo with
    | some _ => rfl
    | none => cases hi with
      | none => rfl
      | some y => cases mx with
        | some _ => rfl
        | none => simp only [hx, h y (by simp [Op.operands])]
  | _ => rfl

/-! ### what a class tells -/
def shapeP : Option Place → Option (Sh × Nat × Nat)
  | some (.rows r xs g) => some (r, xs.length, g)
  | _ => none
theorem shape_some {q q2 : Option Place} (h : shapeP q2 = shapeP q) {r : Sh} {xs : List r.den} {g : Nat} (hq : q = some (.rows r xs g)) : ∃ ys : List r.den, ys.length = xs.length ∧ q2 = some (.rows r ys g) := by
  subst hq
  match q2, h with
  | some (.rows r2 ys g2), h =>
    have h : some (r2, ys.length, g2) = some (r, xs.length, g) := h
    injection h with h
    injection h with h1 h2
    injection h2 with h2 h3
    subst h1 h3
    exact ⟨ys, h2, rfl⟩
  | none, h => cases h
  | some (.cells _), h => cases h
  | some .dead, h => cases h
def agr (x : Cl) (σ σ2 : Sig) : Prop := match x with
  | .pure => True
  | .rd m => ∀ k : Nat, Nat.testBit m k = true → σ2[k]? = σ[k]?
  | .sh m => ∀ k : Nat, Nat.testBit m k = true → shapeP σ2[k]? = shapeP σ[k]?
  | _ => σ2 = σ
def eff (x : Cl) (σ s : Sig) : Prop := match x with
  | .wrAll => True
  | .wr m => (∀ k : Nat, shapeP s[k]? = shapeP σ[k]?) ∧ ∀ k : Nat, Nat.testBit m k = false → s[k]? = σ[k]?
  | .wl m n => ∀ k : Nat, k < n → Nat.testBit m k = false → s[k]? = σ[k]?
  | _ => s = σ
theorem agr_refl (x : Cl) (σ : Sig) : agr x σ σ := by cases x <;> simp [agr]
theorem agr_symm {x : Cl} {σ s : Sig} (h : agr x σ s) : agr x s σ := by
  cases x with
  | pure => trivial
  | rd m => exact fun k hk => (h k hk).symm
  | sh m => exact fun k hk => (h k hk).symm
  | _ => exact Eq.symm h
theorem agr_trans {x : Cl} {σ s u : Sig} (h : agr x σ s) (k : agr x s u) : agr x σ u := by
  cases x with
  | pure => trivial
  | rd m => exact fun i hi => (k i hi).trans (h i hi)
  | sh m => exact fun i hi => (k i hi).trans (h i hi)
  | _ => exact (Eq.trans k h : u = σ)
theorem eff_keep {x : Cl} {σ s : Sig} (h : eff x σ s) (hx : isW x = false) : s = σ := by
  cases x <;> first | exact h | cases hx
theorem and_bit {a b k : Nat} (h : Nat.beq (Nat.land a b) 0 = true) (hk : Nat.testBit b k = true) : Nat.testBit a k = false := by
  have e : a &&& b = 0 := Nat.eq_of_beq_eq_true h
  have := Nat.testBit_and a b k
  rw [e, hk] at this
  simpa using this.symm
theorem lt_bit {b n k : Nat} (h : Nat.blt b (2 ^ n) = true) (hk : Nat.testBit b k = true) : k < n := by
  have h : b < 2 ^ n := by simpa [Nat.blt_eq] using h
  rcases Nat.lt_or_ge k n with e | e
  · exact e
  · have := Nat.testBit_lt_two_pow (Nat.lt_of_lt_of_le h (Nat.pow_le_pow_right (by decide) e))
    rw [hk] at this
    cases this
theorem eff_agr {x y : Cl} {σ s : Sig} (hw : isW x = true) (hh : hits x y = false) (he : eff x σ s) : agr y σ s := by
  cases y with
  | pure => trivial
  | rd m' =>
    cases x with
    | wr m => exact fun k hk => he.2 k (and_bit (by simpa [hits] using hh) hk)
    | wl m n =>
      simp only [hits, Bool.not_eq_false', Bool.and_eq_true] at hh
      exact fun k hk => he k (lt_bit hh.2 hk) (and_bit hh.1 hk)
    | wrAll => cases hh
    | _ => cases hw
  | sh m' =>
    cases x with
    | wr m => exact fun k _ => he.1 k
    | wl m n =>
      simp only [hits, Bool.not_eq_false', Bool.and_eq_true] at hh
      exact fun k hk => congrArg shapeP (he k (lt_bit hh.2 hk) (and_bit hh.1 hk))
    | wrAll => cases hh
    | _ => cases hw
  | _ => cases x <;> first | cases hh | cases hw
theorem hits_wr {x y : Cl} (hx : isW x = true) (hy : isW y = true) : hits x y = true := by
  cases x <;> cases y <;> first | rfl | (cases hx; done) | (cases hy; done)
theorem bit_self (k : Nat) : Nat.testBit (2 ^ k) k = true := Nat.testBit_two_pow_self
theorem bit_ne {k i : Nat} (h : Nat.testBit (2 ^ k) i = false) : i ≠ k := fun e => by rw [e, bit_self] at h; cases h

/-! ### what one operation has to do with memory -/
def setS (σ : Sig) (t : Tri) : Tri := ⟨t.ok, t.pv, σ⟩
theorem setS_some {x : Option Tri} {σ : Sig} {t : Tri} (h : x.map (setS σ) = some t) : t.σ = σ ∧ ∀ σ2, x.map (setS σ2) = some ⟨t.ok, t.pv, σ2⟩ := by
  cases x with
  | none => cases h
  | some q => cases h; exact ⟨rfl, fun _ => rfl⟩

theorem oNil_pure (p : PV) (σ : Sig) : oNil p σ = (oNil p []).map (setS σ) := by cases p <;> rfl
theorem oFieldAddr_same {s : TypeId} {p : PV} {i : Nat} {σ : Sig} {tr : Tri} (h : oFieldAddr P s p i σ = some tr) : tr.σ = σ := by
  unfold oFieldAddr at h
  repeat' split at h
  all_goals first | (cases h; rfl) | cases h
theorem oFieldAddr_pure (s : TypeId) {p : PV} (hp : ∀ k a n g, p ≠ .apl k a n g) (i : Nat) (σ : Sig) : oFieldAddr P s p i σ = (oFieldAddr P s p i []).map (setS σ) := by
  unfold oFieldAddr
  split
  · split
    · rfl
    · cases p <;> first | rfl | exact absurd rfl (hp _ _ _ _)
  · rfl
theorem oField_pure (s : TypeId) (p : PV) (i : Nat) (σ : Sig) : oField P s p i σ = (oField P s p i []).map (setS σ) := by
  unfold oField
  split
  · cases p with
    | agg cs => simp only; split <;> rfl
    | _ => rfl
  · rfl
theorem oIndex_pure (t : TypeId) (p q : PV) (σ : Sig) : oIndex P t p q σ = (oIndex P t p q []).map (setS σ) := by
  unfold oIndex
  split
  · split
    · rfl
    · split
      · split <;> rfl
      · rfl
    · rfl
  · rfl
theorem oLookup_pure (t : TypeId) (p q : PV) (c : Bool) (σ : Sig) : oLookup P t p q c σ = (oLookup P t p q c []).map (setS σ) := by
  unfold oLookup
  repeat' split
  all_goals rfl
theorem oExtract_pure (p : PV) (i : Nat) (σ : Sig) : oExtract p i σ = (oExtract p i []).map (setS σ) := by
  cases p with
  | tup vs => simp only [oExtract]; split <;> rfl
  | _ => rfl
theorem oEq_pure (neg : Bool) (t : TypeId) (ps qs : List PV) (σ : Sig) : oEq P neg t ps qs σ = (oEq P neg t ps qs []).map (setS σ) := by
  unfold oEq
  repeat' split
  all_goals rfl
theorem oBin_pure (op : BinOp) (t : TypeId) (x y : Operand) (p q : PV) (σ : Sig) : oBin P op t x y p q σ = (oBin P op t x y p q []).map (setS σ) := by
  unfold oBin
  split
  · exact oEq_pure _ _ _ _ _
  · exact oEq_pure _ _ _ _ _
  · split <;> rfl
  · split <;> rfl
  · split
    · split <;> rfl
    · rfl
theorem oUn_pure (op : UnOp) (p : PV) (σ : Sig) : oUn P op p σ = (oUn P op p []).map (setS σ) := by
  unfold oUn
  split
  · split <;> rfl
  · rfl
theorem oMinMax_pure (mx : Bool) (ps : List PV) (σ : Sig) : oMinMax mx ps σ = (oMinMax mx ps []).map (setS σ) := by
  unfold oMinMax
  split
  · split <;> rfl
  · rfl

theorem oLoad_same {t : TypeId} {p : PV} {σ : Sig} {tr : Tri} (h : oLoad P t p σ = some tr) : tr.σ = σ := by
  unfold oLoad at h
  repeat' split at h
  all_goals first | (cases h; rfl) | cases h
theorem oLoad_pure {t : TypeId} {p : PV} (hp : (∃ r x o, p = .ep r x o) ∨ ∃ k xs n, p = .apr k xs n) (σ : Sig) : oLoad P t p σ = (oLoad P t p []).map (setS σ) := by
  have h1 : ∀ k n, loadArr k n σ p = loadArr k n [] p := by rcases hp with ⟨r, x, o, rfl⟩ | ⟨k, xs, n, rfl⟩ <;> intros <;> rfl
  have h2 : ∀ a n, loadP a n σ p = loadP a n [] p := by rcases hp with ⟨r, x, o, rfl⟩ | ⟨k, xs, n, rfl⟩ <;> intros <;> rfl
  unfold oLoad
  simp only [h1, h2]
  repeat' split
  all_goals rfl
theorem oIndexAddr_same {t : TypeId} {p q : PV} {σ : Sig} {tr : Tri} (h : oIndexAddr P t p q σ = some tr) : tr.σ = σ := by
  unfold oIndexAddr at h
  repeat' split at h
  all_goals first | (cases h; rfl) | cases h
theorem oIndexAddr_pure {t : TypeId} {a : Bool} {r : Sh} {xs : List r.den} {q : PV} (σ : Sig) : oIndexAddr P t (.rows a r xs) q σ = (oIndexAddr P t (.rows a r xs) q []).map (setS σ) := by
  unfold oIndexAddr
  split
  · split
    · simp only; split <;> rfl
    · rfl
    · rfl
  · rfl
theorem oSlice_same {t : TypeId} {p : PV} {lo hi : Option PV} {σ : Sig} {tr : Tri} (h : oSlice P t p lo hi σ = some tr) : tr.σ = σ := by
  unfold oSlice oSliceNil at h
  repeat' split at h
  all_goals first | (cases h; rfl) | cases h
theorem oSlice_pure {t : TypeId} {p : PV} {lo hi : Option PV} (hp : (∃ x, p = .v x) ∨ ∃ a r xs, p = .rows a r xs) (σ : Sig) : oSlice P t p lo hi σ = (oSlice P t p lo hi []).map (setS σ) := by
  rcases hp with ⟨x, rfl⟩ | ⟨a, r, xs, rfl⟩
  · unfold oSlice
    split
    · cases x with
      | string s => simp only; split <;> rfl
      | _ => rfl
    · rename_i e _
      show oSliceNil P e x (lowOf lo) (highOf 0 hi) σ = (oSliceNil P e x (lowOf lo) (highOf 0 hi) []).map (setS σ)
      unfold oSliceNil
      split <;> rfl
    · rfl
    · rfl
  · unfold oSlice
    split
    · rfl
    · simp only
      split
      · split <;> rfl
      · rfl
    · rfl
    · rfl
theorem oSlice3_same {t : TypeId} {z : Bool} {p : PV} {lo : Option PV} {hi mx : PV} {σ : Sig} {tr : Tri} (h : oSlice3 P t z p lo hi mx σ = some tr) : tr.σ = σ := by
  unfold oSlice3 at h
  repeat' split at h
  all_goals first | (cases h; rfl) | cases h
theorem oSlice3_pure {t : TypeId} {z : Bool} {p : PV} {lo : Option PV} {hi mx : PV} (hp : (∃ x, p = .v x) ∨ ∃ a r xs, p = .rows a r xs) (σ : Sig) : oSlice3 P t z p lo hi mx σ = (oSlice3 P t z p lo hi mx []).map (setS σ) := by
  have hr : rowOf σ p = rowOf [] p := by rcases hp with ⟨x, rfl⟩ | ⟨a, r, xs, rfl⟩ <;> rfl
  unfold oSlice3
  split
  · split
    · cases z with
      | true =>
        simp only
        rcases hp with ⟨x, rfl⟩ | ⟨a, r, xs, rfl⟩
        · split
          · split <;> rfl
          · rfl
        · simp only [rowOf]
          split <;> rfl
      | false =>
        simp only
        rcases hp with ⟨x, rfl⟩ | ⟨a, r, xs, rfl⟩
        · rfl
        · simp only
          split <;> rfl
    · rfl
  · rfl
theorem oBuildArr_same {t : TypeId} {ps : List (Nat × PV)} {σ : Sig} {tr : Tri} (h : oBuildArr P t ps σ = some tr) : tr.σ = σ := by
  unfold oBuildArr at h
  repeat' split at h
  all_goals first | (cases h; rfl) | cases h
theorem oArrayAt_same {t : TypeId} {p : PV} {σ : Sig} {tr : Tri} (h : oArrayAt P t p σ = some tr) : tr.σ = σ := by
  unfold oArrayAt at h
  repeat' split at h
  all_goals first | (cases h; rfl) | cases h
theorem oArrayAt_pure {t : TypeId} {a : Bool} {r : Sh} {xs : List r.den} (σ : Sig) : oArrayAt P t (.rows a r xs) σ = (oArrayAt P t (.rows a r xs) []).map (setS σ) := by
  unfold oArrayAt
  split
  · cases r <;> rfl
  · rfl
theorem oCap_same {t : TypeId} {p : PV} {σ : Sig} {tr : Tri} (h : oCap P t p σ = some tr) : tr.σ = σ := by
  unfold oCap at h
  split at h <;> cases h
  rfl
theorem oLen_same {t : TypeId} {p : PV} {σ : Sig} {tr : Tri} (h : oLen P t p σ = some tr) : tr.σ = σ := by
  unfold oLen at h
  repeat' split at h
  all_goals first | (cases h; rfl) | cases h
theorem oBuild_same {t : TypeId} {ps : List (Nat × PV)} {σ : Sig} {tr : Tri} (h : oBuild P t ps σ = some tr) : tr.σ = σ := by
  unfold oBuild at h
  repeat' split at h
  all_goals first | (cases h; rfl) | cases h
theorem oBuildSlice_same {t : TypeId} {n : Nat} {ps : List (Nat × PV)} {σ : Sig} {tr : Tri} (h : oBuildSlice P t n ps σ = some tr) : tr.σ = σ := by
  unfold oBuildSlice at h
  repeat' split at h
  all_goals first | (cases h; rfl) | cases h
theorem oConvert_v {s d : TypeId} {x : Value} (hx : ∀ b, x ≠ .string b) (σ : Sig) : oConvert P s d (.v x) σ = (oConvert P s d (.v x) []).map (setS σ) := by
  unfold oConvert
  split
  · cases x with
    | string b => exact absurd rfl (hx b)
    | float k0 b => cases k0 <;> (simp only [oConvert0]; split <;> rfl)
    | _ => simp only [oConvert0]; split <;> rfl
  · rfl
theorem oConvert_same {s d : TypeId} {p : PV} {σ : Sig} {tr : Tri} (hp : ∀ b, p ≠ .v (.string b)) (h : oConvert P s d p σ = some tr) : tr.σ = σ := by
  cases p with
  | v x => rw [oConvert_v (fun b e => hp b (by rw [e]))] at h; exact (setS_some h).1
  | _ =>
    unfold oConvert oConvert0 at h
    repeat' split at h
    all_goals first | contradiction | (cases h; rfl) | cases h


/-! ### what looks at some places alone -/
theorem oIndexAddr_sh {t : TypeId} {p q : PV} {σ : Sig} {tr : Tri} (hp : shC p ≠ .rdAll) (h : oIndexAddr P t p q σ = some tr) {σ2 : Sig} (ha : agr (shC p) σ σ2) : oIndexAddr P t p q σ2 = some ⟨tr.ok, tr.pv, σ2⟩ := by
  cases p with
  | rows a r xs => rw [oIndexAddr_pure] at h ⊢; exact (setS_some h).2 σ2
  | v x =>
    unfold oIndexAddr at h
    repeat' split at h
    all_goals first | contradiction | cases h
  | own k g =>
    have hs := ha k (bit_self k)
    unfold oIndexAddr at h ⊢
    repeat' split at h
    all_goals first | contradiction | cases h
    all_goals try cases ‹PV.own k g = PV.own _ _›
    all_goals obtain ⟨ys, hl, h2⟩ := shape_some hs (by assumption)
    all_goals simp_all
  | ref k i m g =>
    have hs := ha k (bit_self k)
    unfold oIndexAddr at h ⊢
    repeat' split at h
    all_goals first | contradiction | cases h
    all_goals try cases ‹PV.ref k i m g = PV.ref _ _ _ _›
    all_goals obtain ⟨ys, hl, h2⟩ := shape_some hs (by assumption)
    all_goals simp_all
  | apl k i m g =>
    have hs := ha k (bit_self k)
    unfold oIndexAddr at h ⊢
    repeat' split at h
    all_goals first | contradiction | cases h
    all_goals try cases ‹PV.apl k i m g = PV.apl _ _ _ _›
    all_goals obtain ⟨ys, hl, h2⟩ := shape_some hs (by assumption)
    all_goals simp_all
  | ot k g e =>
    first | unfold oIndexAddr at h | unfold oSlice at h
    repeat' split at h
    all_goals first | contradiction | cases h
  | _ => exact absurd rfl hp

theorem oSlice_sh {t : TypeId} {p : PV} {lo hi : Option PV} {σ : Sig} {tr : Tri} (hp : shC p ≠ .rdAll) (h : oSlice P t p lo hi σ = some tr) {σ2 : Sig} (ha : agr (shC p) σ σ2) : oSlice P t p lo hi σ2 = some ⟨tr.ok, tr.pv, σ2⟩ := by
  cases p with
  | rows a r xs => rw [oSlice_pure (.inr ⟨_, _, _, rfl⟩)] at h ⊢; exact (setS_some h).2 σ2
  | v x => rw [oSlice_pure (.inl ⟨_, rfl⟩)] at h ⊢; exact (setS_some h).2 σ2
  | own k g =>
    have hs := ha k (bit_self k)
    unfold oSlice at h ⊢
    repeat' split at h
    all_goals first | contradiction | cases h
    all_goals try cases ‹PV.own k g = PV.own _ _›
    all_goals obtain ⟨ys, hl, h2⟩ := shape_some hs (by assumption)
    all_goals simp_all
  | ref k i m g =>
    have hs := ha k (bit_self k)
    unfold oSlice at h ⊢
    repeat' split at h
    all_goals first | contradiction | cases h
    all_goals try cases ‹PV.ref k i m g = PV.ref _ _ _ _›
    all_goals obtain ⟨ys, hl, h2⟩ := shape_some hs (by assumption)
    all_goals simp_all
  | apl k i m g =>
    have hs := ha k (bit_self k)
    unfold oSlice at h ⊢
    repeat' split at h
    all_goals first | contradiction | cases h
    all_goals try cases ‹PV.apl k i m g = PV.apl _ _ _ _›
    all_goals obtain ⟨ys, hl, h2⟩ := shape_some hs (by assumption)
    all_goals simp_all
  | ot k g e =>
    first | unfold oIndexAddr at h | unfold oSlice at h
    repeat' split at h
    all_goals first | contradiction | cases h
  | _ => exact absurd rfl hp

theorem oArrayAt_sh {t : TypeId} {p : PV} {σ : Sig} {tr : Tri} (hp : (∃ k g, p = .own k g) ∨ ∃ k i m g, p = .ref k i m g) (h : oArrayAt P t p σ = some tr) {σ2 : Sig} (ha : agr (shC p) σ σ2) : oArrayAt P t p σ2 = some ⟨tr.ok, tr.pv, σ2⟩ := by
  rcases hp with ⟨k, g, rfl⟩ | ⟨k, i, m, g, rfl⟩
  · --
    have hs := ha k (bit_self k)
    unfold oArrayAt at h ⊢
    repeat' split at h
    all_goals first | contradiction | cases h
    all_goals try cases ‹PV.own k g = PV.own _ _›
    all_goals obtain ⟨ys, hl, h2⟩ := shape_some hs (by assumption)
    all_goals simp_all
  · --
    have hs := ha k (bit_self k)
    unfold oArrayAt at h ⊢
    repeat' split at h
    all_goals first | contradiction | cases h
    all_goals try cases ‹PV.ref k i m g = PV.ref _ _ _ _›
    all_goals obtain ⟨ys, hl, h2⟩ := shape_some hs (by assumption)
    all_goals simp_all

theorem oLen_sh {t : TypeId} {p : PV} {σ : Sig} {tr : Tri} (hp : shC p ≠ .rdAll) (h : oLen P t p σ = some tr) {σ2 : Sig} (ha : agr (shC p) σ σ2) : oLen P t p σ2 = some ⟨tr.ok, tr.pv, σ2⟩ := by
  unfold oLen at h ⊢
  cases hu : P.underlying t with
  | none => rw [hu] at h; cases h
  | some d =>
    rw [hu] at h
    cases d with
    | string =>
      cases p with
      | v x => cases x <;> first | cases h; rfl | cases h
      | _ => cases h
    | slice e =>
      cases p with
      | rows a r xs => cases h; rfl
      | own k g =>
        have hs := ha k (bit_self k)
        simp only at h ⊢
        split at h
        · rename_i r xs g' hk
          obtain ⟨ys, hl, h2⟩ := shape_some hs hk
          rw [h2]
          simp only
          split at h
          · rename_i hg; rw [if_pos hg]; cases h; rw [hl]
          · cases h
        · cases h
      | ot k g e' =>
        have hs := ha k (bit_self k)
        simp only at h ⊢
        split at h
        · rename_i r xs g' hk
          obtain ⟨ys, hl, h2⟩ := shape_some hs hk
          rw [h2]
          simp only
          split at h
          · rename_i hg; rw [if_pos hg]; cases h; rw [hl]
          · cases h
        · cases h
      | ref k i m g =>
        have hs := ha k (bit_self k)
        simp only at h ⊢
        split at h
        · rename_i r xs g' hk
          obtain ⟨ys, hl, h2⟩ := shape_some hs hk
          rw [h2]
          simp only
          split at h
          · rename_i hg; rw [if_pos hg]; cases h; rfl
          · cases h
        · cases h
      | v x =>
        simp only at h ⊢
        split at h
        all_goals first | contradiction | skip
        rename_i e; cases e; cases h; rfl
      | _ => cases h
    | array n e => cases h; rfl
    | _ => cases h
theorem oFieldAddr_sh {s : TypeId} {k i m g j : Nat} {σ : Sig} {tr : Tri} (h : oFieldAddr P s (.apl k i m g) j σ = some tr) {σ2 : Sig} (ha : agr (.sh (2 ^ k)) σ σ2) : oFieldAddr P s (.apl k i m g) j σ2 = some ⟨tr.ok, tr.pv, σ2⟩ := by
  have hs := ha k (bit_self k)
  unfold oFieldAddr at h ⊢
  split at h
  · split at h
    · cases h
    · rename_i hz
      rw [if_neg hz]
      simp only at h ⊢
      split at h
      · rename_i hk
        obtain ⟨ys, hl, h2⟩ := shape_some hs hk
        rw [h2]
        simp only
        split at h
        · rename_i hg; rw [if_pos hg]; cases h; rfl
        · cases h
      · cases h
  · cases h
theorem oLoad_rd {t : TypeId} {p : PV} {k : Nat} (hp : (∃ o, p = .ptr k o) ∨ (∃ i o g, p = .rp k i o g) ∨ ∃ i m g, p = .apl k i m g) {σ : Sig} {tr : Tri} (h : oLoad P t p σ = some tr) {σ2 : Sig} (ha : agr (.rd (2 ^ k)) σ σ2) : oLoad P t p σ2 = some ⟨tr.ok, tr.pv, σ2⟩ := by
  have hs := ha k (bit_self k)
  have h1 : ∀ kd n, loadArr kd n σ2 p = loadArr kd n σ p := by
    rcases hp with ⟨o, rfl⟩ | ⟨i, o, g, rfl⟩ | ⟨i, m, g, rfl⟩
    · intros; rfl
    · intros; rfl
    · intro kd n; simp only [loadArr, hs]
  have h2 : ∀ a n, loadP a n σ2 p = loadP a n σ p := by
    rcases hp with ⟨o, rfl⟩ | ⟨i, o, g, rfl⟩ | ⟨i, m, g, rfl⟩
    · intro a n; simp only [loadP, hs]
    · intro a n; simp only [loadP, hs]
    · intros; rfl
  unfold oLoad at h ⊢
  simp only [h1, h2]
  repeat' split at h
  all_goals first | contradiction | cases h
  all_goals simp_all

/-! ### what writes into some places alone, or further ones -/
theorem add_eff {σ : Sig} (q : Place) : eff (.wl 0 σ.length) σ (σ ++ [q]) := fun k hk _ => by rw [List.getElem?_append_left hk]
theorem set_eff {σ : Sig} (k n : Nat) (q : Place) : eff (.wl (2 ^ k) n) σ (σ.set k q) := fun i _ hb => by
  have := bit_ne hb
  rw [List.getElem?_set_ne (fun e => this e.symm)]
theorem set_wr {σ : Sig} {k : Nat} {q : Place} (h : shapeP (some q) = shapeP σ[k]?) : eff (.wr (2 ^ k)) σ (σ.set k q) := by
  refine ⟨fun i => ?_, fun i hb => ?_⟩
  · by_cases e : i = k
    · subst e
      by_cases hl : i < σ.length
      · rw [List.getElem?_set_self hl, h]
      · rw [List.set_eq_of_length_le (by omega)]
    · rw [List.getElem?_set_ne (fun e' => e e'.symm)]
  · have := bit_ne hb
    rw [List.getElem?_set_ne (fun e => this e.symm)]
theorem storeP_eff {σ σ' : Sig} {a x : PV} {k : Nat} (ha : (∃ o, a = .ptr k o) ∨ ∃ i o g, a = .rp k i o g) (h : storeP σ a x = some σ') : eff (.wr (2 ^ k)) σ σ' := by
  unfold storeP at h
  rcases ha with ⟨o, rfl⟩ | ⟨i, o, g, rfl⟩
  · simp only at h
    split at h
    · rename_i hk
      split at h
      · cases h
        exact set_wr (by rw [hk]; rfl)
      · cases h
    · cases h
  · simp only at h
    split at h
    · rename_i hk
      split at h
      · split at h
        · cases h
          exact set_wr (by rw [hk]; simp [shapeP])
        · cases h
      · cases h
    · cases h
theorem oStore_eff {t : TypeId} {a x : PV} {k : Nat} (ha : (∃ o, a = .ptr k o) ∨ ∃ i o g, a = .rp k i o g) {σ : Sig} {tr : Tri} (h : oStore P t a x σ = some tr) : eff (.wr (2 ^ k)) σ tr.σ := by
  unfold oStore at h
  split at h
  · rename_i hb
    cases h
    unfold oStoreB at hb
    split at hb
    · rcases ha with ⟨o, e⟩ | ⟨i, o, g, e⟩
      · cases e
        split at hb
        · rename_i hk
          split at hb
          · split at hb
            · split at hb
              · cases hb; exact set_wr (by rw [hk]; rfl)
              · cases hb
            · split at hb
              · cases hb; exact set_wr (by rw [hk]; rfl)
              · cases hb
            · cases hb
          · cases hb
        · cases hb
      · cases e
    · cases hb
  unfold oStore0 at h
  split at h
  · split at h
    · rcases ha with ⟨o, e⟩ | ⟨i, o, g, e⟩ <;> cases e
    · cases h
  · split at h
    · split at h
      · rename_i hs
        cases h
        exact storeP_eff ha hs
      · cases h
    · cases h
theorem oStore_apl {t : TypeId} {k i m g : Nat} {x : PV} {σ : Sig} {tr : Tri} (h : oStore P t (.apl k i m g) x σ = some tr) : eff (.wl (2 ^ k) σ.length) σ tr.σ := by
  unfold oStore at h
  rw [show oStoreB t (szOf P t) (.apl k i m g) x σ = none from rfl] at h
  simp only at h
  unfold oStore0 at h
  split at h
  · split at h
    · rename_i e _
      cases e
      split at h
      · split at h
        · cases h; exact set_eff _ _ _
        · cases h
      · cases h
    · cases h
  · split at h
    · split at h
      · rename_i hs; cases hs
      · cases h
    · cases h
theorem oBinB_same {op : BinOp} {t : TypeId} {p q : PV} {σ : Sig} {tr : Tri} (h : oBinB P op t p q σ = some tr) : tr.σ = σ := by
  unfold oBinB at h
  repeat' split at h
  all_goals first | contradiction | (cases h; rfl)
theorem oSliceData_same {p : PV} {σ : Sig} {tr : Tri} (h : oSliceData p σ = some tr) : tr.σ = σ := by
  unfold oSliceData at h
  repeat' split at h
  all_goals first | contradiction | (cases h; rfl)
theorem oConvert_rd {s d : TypeId} {p : PV} {k : Nat} (hp : (∃ g, p = .own k g) ∨ ∃ i n g, p = .ref k i n g) {σ σ2 : Sig} {tr : Tri} (h : oConvert P s d p σ = some tr) (ha : σ2[k]? = σ[k]?) : oConvert P s d p σ2 = some ⟨tr.ok, tr.pv, σ2⟩ := by
  rcases hp with ⟨g, rfl⟩ | ⟨i, n, g, rfl⟩
  all_goals
    unfold oConvert oConvert0 at h ⊢
    simp only [rowOf, ha] at h ⊢
    repeat' split at h
    all_goals first | contradiction | skip
    all_goals cases h
    all_goals simp_all
theorem oAlloc_eff {t : TypeId} {σ : Sig} {tr : Tri} (h : oAlloc P t σ = some tr) : eff (.wl 0 σ.length) σ tr.σ := by
  unfold oAlloc at h
  repeat' split at h
  all_goals first | contradiction | (cases h; exact add_eff _)
theorem oBox_eff {t : TypeId} {x : PV} {σ : Sig} {tr : Tri} (h : oBox P t x σ = some tr) : eff (.wl 0 σ.length) σ tr.σ := by
  unfold oBox at h
  repeat' split at h
  all_goals first | contradiction | (cases h; exact add_eff _)
theorem oMakeSlice_eff {t : TypeId} {p q : PV} {σ : Sig} {tr : Tri} (h : oMakeSlice P t p q σ = some tr) : eff (.wl 0 σ.length) σ tr.σ := by
  unfold oMakeSlice oMakeSlice2 at h
  repeat' split at h
  all_goals first | contradiction | (cases h; exact add_eff _)
theorem oConvert_eff {s d : TypeId} {b : ByteArray} {σ : Sig} {tr : Tri} (h : oConvert P s d (.v (.string b)) σ = some tr) : eff (.wl 0 σ.length) σ tr.σ := by
  unfold oConvert oConvert0 at h
  repeat' split at h
  all_goals first | contradiction | (cases h; first | exact add_eff _ | exact fun _ _ _ => rfl)
theorem oAppR_eff {r : Sh} {ys : List r.den} {p : PV} {σ : Sig} {tr : Tri} (h : oAppR r ys p σ = some tr) : (∀ k g, p = .own k g → eff (.wl (2 ^ k) σ.length) σ tr.σ) ∧ ((∀ k g, p ≠ .own k g) → eff (.wl 0 σ.length) σ tr.σ) := by
  unfold oAppR at h
  repeat' split at h
  all_goals first | contradiction | skip
  all_goals cases h
  all_goals refine ⟨fun k g e => ?_, fun hne => ?_⟩
  all_goals first | (cases e; exact set_eff _ _ _) | cases e | exact absurd rfl (hne _ _) | exact add_eff _
theorem oAppend_eff {t u : TypeId} {p q : PV} {σ : Sig} {tr : Tri} (h : oAppend P t u p q σ = some tr) : (∀ k g, p = .own k g → eff (.wl (2 ^ k) σ.length) σ tr.σ) ∧ ((∀ k g, p ≠ .own k g) → (∀ k g e, p ≠ .ot k g e) → eff (.wl 0 σ.length) σ tr.σ) := by
  have two : ∀ {r : Sh} {ys : List r.den} {tr : Tri}, oAppR r ys p σ = some tr → (∀ k g, p = .own k g → eff (.wl (2 ^ k) σ.length) σ tr.σ) ∧ ((∀ k g, p ≠ .own k g) → (∀ k g e, p ≠ .ot k g e) → eff (.wl 0 σ.length) σ tr.σ) :=
    fun hq => ⟨(oAppR_eff hq).1, fun h1 _ => (oAppR_eff hq).2 h1⟩
  unfold oAppend at h
  split at h
  · split at h
    · split at h
      · unfold oAppT at h
        split at h
        · exact ⟨fun k g e => (by cases e), fun _ h2 => absurd rfl (h2 _ _ _)⟩
        · exact two h
      · cases h
    · cases h
  · split at h
    · split at h
      · exact two h
      · cases h
    · cases h
  · split at h
    · split at h
      · split at h
        · split at h
          · rename_i htr
            cases h
            have q := oAppR_eff htr
            exact ⟨q.1, fun h1 _ => q.2 h1⟩
          · cases h
        · cases h
      · cases h
    · cases h
  · cases h
theorem oCopy_eff {t : TypeId} {p q : PV} {σ : Sig} {tr : Tri} (h : oCopy P t p q σ = some tr) : ∀ k, ((∃ g, p = .own k g) ∨ ∃ i n g, p = .ref k i n g) → eff (.wl (2 ^ k) σ.length) σ tr.σ := by
  unfold oCopy at h
  repeat' split at h
  all_goals first | contradiction | skip
  all_goals cases h
  all_goals (rintro k (⟨g, e⟩ | ⟨i, n, g, e⟩) <;> first | (cases e; exact set_eff _ _ _) | cases e)

theorem bit_or {a b k : Nat} : Nat.testBit (Nat.lor a b) k = true ↔ Nat.testBit a k = true ∨ Nat.testBit b k = true := by
  show Nat.testBit (a ||| b) k = true ↔ _
  rw [Nat.testBit_or, Bool.or_eq_true]
def genB (q : Option Place) (g : Nat) : Bool := match q with
  | some (.rows _ _ g') => decide (g' = g)
  | _ => false
theorem shape_gen {q q2 : Option Place} (h : shapeP q2 = shapeP q) (g : Nat) : genB q2 g = genB q g := by
  match q, q2, h with
  | some (.rows r xs g1), q2, h =>
    obtain ⟨ys, _, rfl⟩ := shape_some h rfl
    rfl
  | none, some (.rows ..), h => cases h
  | some (.cells _), some (.rows ..), h => cases h
  | some .dead, some (.rows ..), h => cases h
  | none, none, _ => rfl
  | none, some (.cells _), _ => rfl
  | none, some .dead, _ => rfl
  | some (.cells _), none, _ => rfl
  | some (.cells _), some (.cells _), _ => rfl
  | some (.cells _), some .dead, _ => rfl
  | some .dead, none, _ => rfl
  | some .dead, some (.cells _), _ => rfl
  | some .dead, some .dead, _ => rfl
theorem live_sh {σ σ2 : Sig} : ∀ {cs : List PV}, agr (.sh (mskL cs)) σ σ2 → ∀ c ∈ cs, liveCell σ2 c = liveCell σ c := by
  intro cs
  induction cs with
  | nil => intro _ c hc; cases hc
  | cons x cs ih =>
    intro h c hc
    have hr : agr (.sh (mskL cs)) σ σ2 := by
      intro k hk
      refine h k ?_
      cases x <;> first | exact hk | exact bit_or.2 (.inr hk)
    rcases List.mem_cons.1 hc with rfl | hc
    · cases c with
      | own k g => exact shape_gen (h k (bit_or.2 (.inl (bit_self k)))) g
      | ot k g e => exact shape_gen (h k (bit_or.2 (.inl (bit_self k)))) g
      | ref k i n g => exact shape_gen (h k (bit_or.2 (.inl (bit_self k)))) g
      | v x => cases x <;> rfl
      | _ => rfl
    · exact ih hr c hc
theorem fill_sh {σ σ2 : Sig} : ∀ {l : List (Nat × Nat × PV)} {cs : List PV}, (∀ x ∈ l, ∀ c ∈ pvCells x.2.2, liveCell σ2 c = liveCell σ c) → fillP σ2 cs l = fillP σ cs l := by
  intro l
  induction l with
  | nil => intro cs _; rfl
  | cons x l ih =>
    intro cs h
    obtain ⟨o, s, p⟩ := x
    have e : (pvCells p).all (liveCell σ2) = (pvCells p).all (liveCell σ) := by
      have := h _ (List.mem_cons_self ..)
      simp only at this
      generalize pvCells p = l at this
      induction l with
      | nil => rfl
      | cons a l ih => simp only [List.all_cons]; rw [this a (List.mem_cons_self ..), ih fun c hc => this c (List.mem_cons_of_mem _ hc)]
    simp only [fillP]
    rw [e, ih fun x hx => h x (List.mem_cons_of_mem _ hx)]
theorem parts_sh {σ σ2 : Sig} : ∀ {l : List (Nat × PV)}, agr (.sh (mskPs l)) σ σ2 → ∀ x ∈ l, ∀ c ∈ pvCells x.2, liveCell σ2 c = liveCell σ c := by
  intro l
  induction l with
  | nil => intro _ x hx; cases hx
  | cons y l ih =>
    intro h x hx
    obtain ⟨i, p⟩ := y
    rcases List.mem_cons.1 hx with rfl | hx
    · exact live_sh fun k hk => h k (bit_or.2 (.inl hk))
    · exact ih (fun k hk => h k (bit_or.2 (.inr hk))) x hx
theorem partsOf_mem {fs : Array Field} : ∀ {ps : List (Nat × PV)} {l : List (Nat × Nat × PV)}, partsOf P fs ps = some l → ∀ x ∈ l, ∃ y ∈ ps, y.2 = x.2.2 := by
  intro ps
  induction ps with
  | nil => intro l h x hx; cases h; cases hx
  | cons y ps ih =>
    intro l h x hx
    obtain ⟨i, p⟩ := y
    simp only [partsOf] at h
    split at h
    · split at h
      · rename_i l' hl
        cases h
        rcases List.mem_cons.1 hx with rfl | hx
        · exact ⟨_, List.mem_cons_self .., rfl⟩
        · obtain ⟨y, h1, h2⟩ := ih hl x hx
          exact ⟨y, List.mem_cons_of_mem _ h1, h2⟩
      · cases h
    · cases h
theorem oBuild_sh {t : TypeId} {ps : List (Nat × PV)} {σ : Sig} {tr : Tri} (h : oBuild P t ps σ = some tr) {σ2 : Sig} (ha : agr (.sh (mskPs ps)) σ σ2) : oBuild P t ps σ2 = some ⟨tr.ok, tr.pv, σ2⟩ := by
  have hl := parts_sh ha
  unfold oBuild at h ⊢
  split at h
  · split at h
    · split at h
      · rename_i hc
        split at h
        · rename_i l hp
          have : ∀ cs, fillP σ2 cs l = fillP σ cs l := fun cs => fill_sh fun x hx c hc => by
            obtain ⟨y, h1, h2⟩ := partsOf_mem hp x hx
            exact hl y h1 c (by rw [h2]; exact hc)
          rw [if_pos hc]
          simp only [this]
          split at h
          · rename_i hf; cases h; first | rfl | (rw [hf])
          · cases h
        · cases h
      · cases h
    · cases h
  · cases h
theorem oBuildArr_sh {t : TypeId} {ps : List (Nat × PV)} {σ : Sig} {tr : Tri} (h : oBuildArr P t ps σ = some tr) {σ2 : Sig} (ha : agr (.sh (mskPs ps)) σ σ2) : oBuildArr P t ps σ2 = some ⟨tr.ok, tr.pv, σ2⟩ := by
  have hl := parts_sh ha
  have hfe : ∀ cs, fillP σ2 cs (ps.map fun p => (p.1 * 1, 1, p.2)) = fillP σ cs (ps.map fun p => (p.1 * 1, 1, p.2)) := fun cs => fill_sh fun x hx c hc => by
    obtain ⟨y, h1, h2⟩ := List.mem_map.1 hx
    subst h2
    exact hl y h1 c hc
  unfold oBuildArr at h ⊢
  simp only [hfe]
  repeat' split at h
  all_goals first | contradiction | cases h
  all_goals simp_all
theorem oBuildSlice_sh {t : TypeId} {n : Nat} {ps : List (Nat × PV)} {σ : Sig} {tr : Tri} (h : oBuildSlice P t n ps σ = some tr) {σ2 : Sig} (ha : agr (.sh (mskPs ps)) σ σ2) : oBuildSlice P t n ps σ2 = some ⟨tr.ok, tr.pv, σ2⟩ := by
  have hl := parts_sh ha
  have hfe : ∀ m cs, fillP σ2 cs (ps.map fun p => (p.1 * m, m, p.2)) = fillP σ cs (ps.map fun p => (p.1 * m, m, p.2)) := fun m cs => fill_sh fun x hx c hc => by
    obtain ⟨y, h1, h2⟩ := List.mem_map.1 hx
    subst h2
    exact hl y h1 c hc
  unfold oBuildSlice at h ⊢
  simp only [hfe]
  repeat' split at h
  all_goals first | contradiction | cases h
  all_goals simp_all

def Fit (F : Sig → Option Tri) (c : Cl) (σ : Sig) (t : Tri) : Prop := eff c σ t.σ ∧ (isW c = false → ∀ σ2, agr c σ σ2 → F σ2 = some ⟨t.ok, t.pv, σ2⟩)
theorem Fit.ofW {F : Sig → Option Tri} {c : Cl} {σ : Sig} {t : Tri} (hc : isW c = true) (h : eff c σ t.σ) : Fit F c σ t := ⟨h, fun e => by rw [hc] at e; cases e⟩
theorem Fit.same {F : Sig → Option Tri} {σ : Sig} {t : Tri} (h : F σ = some t) (hs : t.σ = σ) : Fit F .rdAll σ t := by
  refine ⟨hs, fun _ σ2 e => ?_⟩
  obtain rfl : σ2 = σ := e
  rw [h, ← hs]
theorem Fit.free {F : Sig → Option Tri} {c : Cl} (hw : isW c = false) {σ : Sig} {t : Tri} (hs : t.σ = σ) (h : ∀ σ2, agr c σ σ2 → F σ2 = some ⟨t.ok, t.pv, σ2⟩) : Fit F c σ t := by
  refine ⟨?_, fun _ => h⟩
  cases c <;> first | exact hs | cases hw
theorem Fit.pure {F : Sig → Option Tri} (hF : ∀ σ, F σ = (F []).map (setS σ)) {σ : Sig} {t : Tri} (h : F σ = some t) : Fit F .pure σ t := by
  rw [hF] at h
  obtain ⟨h1, h2⟩ := setS_some h
  exact .free rfl h1 fun σ2 _ => by rw [hF]; exact h2 σ2
theorem Fit.ext {F G : Sig → Option Tri} (e : ∀ σ, F σ = G σ) {c : Cl} {σ : Sig} {t : Tri} (h : Fit F c σ t) : Fit G c σ t := ⟨h.1, fun hw σ2 ha => by rw [← e]; exact h.2 hw σ2 ha⟩

theorem stp_cls {qt : FuncId → List PV → Sig → Cl} {f : Fr} {σ : Sig} {o : Oper} {t : Tri} (ho : ∀ g args ts, o.op ≠ .call { callee := .value g, args := args, argTypes := ts }) (h : stp P f σ o = some t) :
    Fit (fun σ => stp P f σ o) (clsOf qt f σ o) σ t := by
  unfold stp at h ⊢
  unfold clsOf
  generalize o.op = op at h ho ⊢
  have shW : ∀ {p : PV}, isW (shC p) = false := by intro p; cases p <;> rfl
  cases op with
  | move x => cases h; exact .free rfl rfl fun _ _ => rfl
  | assign x => cases h; exact .free rfl rfl fun _ _ => rfl
  | nilCheck x => exact .pure (oNil_pure (ev f x)) h
  | fieldAddr s x i =>
    simp only at h ⊢
    split
    · rename_i e
      rw [e] at h ⊢
      exact .free rfl (oFieldAddr_same h) fun _ ha => oFieldAddr_sh h ha
    · rename_i hne
      exact .pure (oFieldAddr_pure s (fun k a n g e => hne k a n g e) i) h
  | field s x i => exact .pure (oField_pure s (ev f x) i) h
  | index s x y => exact .pure (oIndex_pure s (ev f x) (ev f y)) h
  | lookup s x y c => exact .pure (oLookup_pure s (ev f x) (ev f y) c) h
  | extract x i => exact .pure (oExtract_pure (ev f x) i) h
  | binOp op s x y yt =>
    simp only at h ⊢
    generalize ev f x = px at h ⊢
    cases px with
    | bp c k e e2 => exact .same h (oBinB_same h)
    | _ => exact .pure (oBin_pure op s x y _ (ev f y)) h
  | unOp op s x => exact .pure (oUn_pure op (ev f x)) h
  | load s x =>
    simp only at h ⊢
    split
    · rename_i e; rw [e] at h ⊢; exact .pure (oLoad_pure (.inl ⟨_, _, _, rfl⟩)) h
    · rename_i e; rw [e] at h ⊢; exact .pure (oLoad_pure (.inr ⟨_, _, _, rfl⟩)) h
    · rename_i e; rw [e] at h ⊢; exact .free rfl (oLoad_same h) fun _ ha => oLoad_rd (.inl ⟨_, rfl⟩) h ha
    · rename_i e; rw [e] at h ⊢; exact .free rfl (oLoad_same h) fun _ ha => oLoad_rd (.inr (.inl ⟨_, _, _, rfl⟩)) h ha
    · rename_i e; rw [e] at h ⊢; exact .free rfl (oLoad_same h) fun _ ha => oLoad_rd (.inr (.inr ⟨_, _, _, rfl⟩)) h ha
    · exact .same h (oLoad_same h)
  | indexAddr s x y =>
    simp only at h ⊢
    by_cases hp : shC (ev f x) = .rdAll
    · rw [hp]; exact .same h (oIndexAddr_same h)
    · exact .free shW (oIndexAddr_same h) fun _ ha => oIndexAddr_sh hp h ha
  | slice s x lo hi mx =>
    cases mx with
    | some m =>
      cases hi with
      | none => cases h
      | some hi =>
      simp only at h ⊢
      split
      · rename_i e; rw [e] at h ⊢; exact .pure (oSlice3_pure (.inl ⟨_, rfl⟩)) h
      · rename_i e; rw [e] at h ⊢; exact .pure (oSlice3_pure (.inr ⟨_, _, _, rfl⟩)) h
      · exact .same h (oSlice3_same h)
    | none =>
      simp only at h ⊢
      by_cases hp : shC (ev f x) = .rdAll
      · rw [hp]; exact .same h (oSlice_same h)
      · exact .free shW (oSlice_same h) fun _ ha => oSlice_sh hp h ha
  | sliceToArrayPointer s x =>
    simp only at h ⊢
    split
    · rename_i e; rw [e] at h ⊢; exact .pure oArrayAt_pure h
    · rename_i e; rw [e] at h ⊢; exact .free rfl (oArrayAt_same h) fun _ ha => oArrayAt_sh (.inl ⟨_, _, rfl⟩) h ha
    · rename_i e; rw [e] at h ⊢; exact .free rfl (oArrayAt_same h) fun _ ha => oArrayAt_sh (.inr ⟨_, _, _, _, rfl⟩) h ha
    · exact .same h (oArrayAt_same h)
  | build s parts =>
    simp only at h ⊢
    cases hb : isArrT P s with
    | true => rw [hb] at h; exact .free (F := fun σ => oBuildArr P s (partsE f parts.toList) σ) rfl (oBuildArr_same h) fun _ ha => oBuildArr_sh h ha
    | false => rw [hb] at h; exact .free (F := fun σ => oBuild P s (partsE f parts.toList) σ) rfl (oBuild_same h) fun _ ha => oBuild_sh h ha
  | buildSlice s n parts => exact .free rfl (oBuildSlice_same h) fun _ ha => oBuildSlice_sh h ha
  | convert s d x =>
    simp only at h ⊢
    split
    · rename_i e; rw [e] at h; exact .ofW rfl (oConvert_eff h)
    · rename_i y hy e
      rw [e] at h ⊢
      exact .pure (oConvert_v (fun b eb => hy b eb)) h
    · rename_i k g e
      rw [e] at h ⊢
      exact .free rfl (oConvert_same (fun b e => by cases e) h) fun σ2 ha => oConvert_rd (.inl ⟨_, rfl⟩) h (ha k (bit_self k))
    · rename_i k i n g e
      rw [e] at h ⊢
      exact .free rfl (oConvert_same (fun b e => by cases e) h) fun σ2 ha => oConvert_rd (.inr ⟨_, _, _, rfl⟩) h (ha k (bit_self k))
    · rename_i h1 h2 h3 h4
      exact .same h (oConvert_same (fun b e => h2 _ e) h)
  | makeFunc fn first captured =>
    cases fn with
    | func g =>
      simp only at h ⊢
      split at h
      · rename_i hc
        cases h
        exact .free rfl rfl fun σ2 _ => by rw [if_pos hc]
      · cases h
    | _ => cases h
  | call c =>
    obtain ⟨callee, args, ts⟩ := c
    cases callee with
    | value g => exact absurd rfl (ho g args ts)
    | invoke r m => cases h
    | builtin b =>
      simp only at h ⊢
      unfold oBuiltin at h
      split at h
      · rename_i p ht hp
        have e : ∀ σ, oBuiltin P .len ts.toList (evs f args.toList) σ = oLen P _ p σ := fun σ => by rw [hp, ht]; rfl
        refine Fit.ext (F := fun σ => oLen P _ p σ) (fun σ => (e σ).symm) ?_
        simp only [hp]
        by_cases hq : shC p = .rdAll
        · rw [hq]; exact .same h (oLen_same h)
        · exact .free shW (oLen_same h) fun _ ha => oLen_sh hq h ha
      · rename_i p q ht hp
        simp only [hp]
        have := oAppend_eff h
        split
        · rename_i e; cases e; exact .ofW rfl (this.1 _ _ rfl)
        · exact .ofW rfl trivial
        · rename_i e; cases e; exact .ofW rfl (this.2 (fun _ _ e => by cases e) (fun _ _ _ e => by cases e))
        · rename_i e; cases e; exact .ofW rfl (this.2 (fun _ _ e => by cases e) (fun _ _ _ e => by cases e))
        · exact .ofW rfl trivial
      · exact .pure (oMinMax_pure false _) h
      · exact .pure (oMinMax_pure true _) h
      · rename_i p q ht hp
        simp only [hp]
        split
        · rename_i e; cases e; exact .ofW rfl (oCopy_eff h _ (.inl ⟨_, rfl⟩))
        · rename_i e; cases e; exact .ofW rfl (oCopy_eff h _ (.inr ⟨_, _, _, rfl⟩))
        · exact .ofW rfl trivial
      · exact .ofW rfl trivial
      · rename_i p hp
        have e : ∀ σ, oBuiltin P .unsafeSliceData ts.toList (evs f args.toList) σ = oSliceData p σ := fun σ => by rw [hp]; rfl
        exact Fit.ext (F := fun σ => oSliceData p σ) (fun σ => (e σ).symm) (.same h (oSliceData_same h))
      · exact .ofW rfl trivial
      · rename_i p ht hp
        have e : ∀ σ, oBuiltin P .cap ts.toList (evs f args.toList) σ = oCap P _ p σ := fun σ => by rw [hp, ht]; rfl
        exact Fit.ext (F := fun σ => oCap P _ p σ) (fun σ => (e σ).symm) (.same h (oCap_same h))
      · cases h
  | store t a x =>
    simp only at h ⊢
    split
    · rename_i e; rw [e] at h; exact .ofW rfl (oStore_eff (.inl ⟨_, rfl⟩) h)
    · rename_i e; rw [e] at h; exact .ofW rfl (oStore_eff (.inr ⟨_, _, _, rfl⟩) h)
    · rename_i e; rw [e] at h; exact .ofW rfl (oStore_apl h)
    · exact .ofW rfl trivial
  | alloc t => exact .ofW rfl (oAlloc_eff h)
  | box t x => exact .ofW rfl (oBox_eff h)
  | makeSlice t x y => exact .ofW rfl (oMakeSlice_eff h)
  | _ => cases h

theorem oAlt_cls {alt : List Nat} {qt : FuncId → List PV → Sig → Cl} {f : Fr} {σ : Sig} {o : Oper} {t : Tri} (ha : dstIn o alt = true) (h : oAlt P f σ o = some t) :
    Fit (fun σ => oAlt P f σ o) (clsA alt qt f σ o) σ t := by
  unfold oAlt at h ⊢
  unfold clsA
  rw [ha]
  simp only [cond_true]
  generalize o.op = op at h ⊢
  cases op with
  | convert s d x =>
    simp only at h ⊢
    split at h
    · split at h
      · split at h
        · cases h; exact .free rfl rfl fun σ2 _ => rfl
        · cases h
      · cases h
    · cases h
  | buildSlice t n parts => exact .ofW rfl trivial
  | slice t x lo hi mx => exact .ofW rfl trivial
  | _ => cases h

end Go.Proofs.YthkjjombaoffcaaGreatDoorPM

/- A region whose order is open: the text's order stands for every order. -/
set_option linter.unusedVariables false
set_option linter.unusedSectionVars false
set_option linter.unusedSimpArgs false
noncomputable section
namespace Go.Proofs.YthkjjombaoffcaaGreatDoorPM
open Go Go.RowKit
variable [Foreign]

variable {P : Program} {call : CallK} {R : Type} {n : Nat} {all : List Oper}

/-! ### static facts -/
theorem bmOf_bit {acc : List Nat} {b : Nat} : ∀ {l : List Edge}, Nat.testBit (bmOf acc l) b = true → ∃ e ∈ l, Region.binds .any e = true ∧ (e.on = b ∨ Nat.testBit (acc.getD e.on 0) b = true)
  | [], h => by simp [bmOf] at h
  | e :: l, h => by
    unfold bmOf at h
    cases hb : Region.binds .any e with
    | false =>
      rw [hb] at h
      obtain ⟨e', h1, h2⟩ := bmOf_bit (l := l) h
      exact ⟨e', List.mem_cons_of_mem _ h1, h2⟩
    | true =>
      rw [hb] at h
      simp only [cond_true, Nat.testBit_or, Bool.or_eq_true, Nat.testBit_two_pow, decide_eq_true_eq] at h
      rcases h with (h | h) | h
      · exact ⟨e, List.mem_cons_self .., hb, .inl h⟩
      · exact ⟨e, List.mem_cons_self .., hb, .inr h⟩
      · obtain ⟨e', h1, h2⟩ := bmOf_bit (l := l) h
        exact ⟨e', List.mem_cons_of_mem _ h1, h2⟩
theorem edgesOk_on {i : Nat} {l : List Edge} (h : edgesOk i l = true) : ∀ e ∈ l, Region.binds .any e = true → e.on < i := by
  induction l with
  | nil => intro e he; cases he
  | cons x l ih =>
    intro e he hb
    unfold edgesOk at h
    rw [Bool.and_eq_true] at h
    rcases List.mem_cons.1 he with rfl | he
    · have h1 := h.1
      rw [hb] at h1
      simpa [Nat.blt_eq] using h1
    · exact ih h.2 e he hb
theorem allEdges_on {l : List Oper} : ∀ {i : Nat}, allEdges i l = true → ∀ j o, l[j]? = some o → ∀ e ∈ o.after.toList, Region.binds .any e = true → e.on < i + j := by
  induction l with
  | nil => intro i _ j o ho; simp at ho
  | cons x l ih =>
    intro i h j o ho
    unfold allEdges at h
    rw [Bool.and_eq_true] at h
    cases j with
    | zero => cases ho; exact edgesOk_on h.1
    | succ j =>
      have := ih h.2 j o (by simpa using ho)
      intro e he hb
      have := this e he hb
      omega
theorem bms_spec : ∀ (l : List Oper) (acc : List Nat), allEdges acc.length l = true → (∀ i, i < acc.length → (bms acc l).getD i 0 = acc.getD i 0) ∧
    ∀ i o, l[i]? = some o → ∀ b, Nat.testBit ((bms acc l).getD (acc.length + i) 0) b = true → ∃ e ∈ o.after.toList, Region.binds .any e = true ∧ (e.on = b ∨ Nat.testBit ((bms acc l).getD e.on 0) b = true) := by
  intro l
  induction l with
  | nil => intro acc _; exact ⟨fun i _ => rfl, fun i o h => by simp at h⟩
  | cons x l ih =>
    intro acc hA
    simp only [allEdges, Bool.and_eq_true] at hA
    obtain ⟨h1, h2⟩ := ih (acc ++ [bmOf acc x.after.toList]) (by simpa using hA.2)
    have k1 : ∀ i, i < acc.length → (bms acc (x :: l)).getD i 0 = acc.getD i 0 := by
      intro i hi
      simp only [bms]
      rw [h1 i (by simp; omega)]
      simp [List.getD_eq_getElem?_getD, List.getElem?_append_left hi]
    refine ⟨k1, fun i o ho b hb => ?_⟩
    cases i with
    | zero =>
      cases ho
      simp only [bms, Nat.add_zero] at hb
      rw [h1 acc.length (by simp)] at hb
      simp [List.getD_eq_getElem?_getD] at hb
      obtain ⟨e, m1, m2, m3⟩ := bmOf_bit hb
      refine ⟨e, m1, m2, ?_⟩
      rw [k1 e.on (edgesOk_on hA.1 e m1 m2)]
      exact m3
    | succ i =>
      have := h2 i o (by simpa using ho) b (by simpa [bms, Nat.add_assoc, Nat.add_comm 1 i] using hb)
      simpa [bms] using this

theorem hasN_mem {t : Nat} {l : List Nat} (h : hasN t l = false) : t ∉ l := by
  induction l with
  | nil => simp
  | cons x l ih =>
    unfold hasN at h
    rw [Bool.or_eq_false_iff] at h
    intro hm
    rcases List.mem_cons.1 hm with rfl | hm
    · rw [Nat.beq_refl] at h; cases h.1
    · exact ih h.2 hm
theorem dstIn_not {o : Oper} {l : List Nat} (h : dstIn o l = false) {d : Nat} (hd : o.dst = some d) : d ∉ l := by
  unfold dstIn at h
  rw [hd] at h
  exact hasN_mem h
theorem sameDst_not {o p : Oper} (h : sameDst o p = false) {d : Nat} (hd : o.dst = some d) : p.dst ≠ some d := by
  intro e
  unfold sameDst at h
  rw [hd, e] at h
  simp only [Nat.beq_refl] at h
  cases h
theorem pairs_spec {bm : List Nat} {cls : List Cl} {j : Nat} : ∀ {i : Nat}, pairsB all bm cls j i = true → ∀ k, k < i → apartB all bm cls k j = true
  | i + 1, h, k, hk => by
    simp only [pairsB, Bool.and_eq_true] at h
    by_cases e : k = i
    · subst e; exact h.1
    · exact pairs_spec h.2 k (by omega)
theorem allPairs_spec {bm : List Nat} {cls : List Cl} : ∀ {m : Nat}, allPairs all bm cls m = true → ∀ i j, i < j → j < m → apartB all bm cls i j = true
  | m + 1, h, i, j, hi, hj => by
    simp only [allPairs, Bool.and_eq_true] at h
    by_cases e : j = m
    · subst e; exact pairs_spec h.1 i hi
    · exact allPairs_spec h.2 i j hi (by omega)
theorem selfOk_spec {l : List Oper} (h : selfOk all l = true) : ∀ o ∈ l, dstIn o (readsOf all o) = false := by
  induction l with
  | nil => intro o ho; cases ho
  | cons x l ih =>
    intro o ho
    unfold selfOk at h
    rw [Bool.and_eq_true] at h
    rcases List.mem_cons.1 ho with rfl | ho
    · simpa using h.1
    · exact ih h.2 o ho

/-! ### one step, wherever it comes -/
def wpGo (P : Program) (all : List Oper) (Q : Exit → Act → World → Prop) (o : Oper) (K : Act → World → Prop) (a : Act) (w : World) : Prop :=
  if Region.wanted o (yielded all.toArray a.tmps) then o.wp P a w K Q ∨ (o.asks P a w ∧ LetsOut Q) else K (a.put o.dst undef) w
def GStep1 (P : Program) (all : List Oper) (g : Fr) (σ : Sig) (o : Oper) (p : PV) (s : Sig) : Prop :=
  ∀ base pb w (a : Act), St base σ pb w → FR σ pb w g a.tmps → ∀ K Q, (∀ pb' w' y, St base s pb' w' → Ext σ pb w s pb' w' → VR s pb' w' p y → K (a.put o.dst y) w') → wpGo P all Q o K a w
def GStep (P : Program) (all : List Oper) (g : Fr) (σ : Sig) (o : Oper) (p : PV) (s : Sig) : Prop := ∀ φ : Foreign, @GStep1 φ P all g σ o p s
structure StepD (P : Program) (all : List Oper) (F : Nat → PV) (σ : Sig) (o : Oper) (c : Cl) (p : PV) (s : Sig) : Prop where
  keep : eff c σ s
  run : ∀ g : Fr, (∀ t ∈ readsOf all o, g.get t = F t) → GStep P all g σ o p s
  free : isW c = false → ∀ g : Fr, (∀ t ∈ readsOf all o, g.get t = F t) → ∀ σ2, agr c σ σ2 → GStep P all g σ2 o p σ2
  al : ∀ t, o.op = .alloc t → o.guard = none → ∃ tr, oAlloc P t σ = some tr ∧ p = tr.pv ∧ s = tr.σ

def QuietOk (P : Program) (call : CallK) (qt : FuncId → List PV → Sig → Cl) : Prop :=
  ∀ (R : Type) g args σ (k : PV → Sig → Option R) r, call R g args σ k = some r → ∃ p s, k p s = some r ∧ (∀ φ : Foreign, @FnOk φ P g args σ p s) ∧ Enters P g ∧ eff (qt g args σ) σ s ∧ (isW (qt g args σ) = false → ∀ σ2, agr (qt g args σ) σ σ2 → ∀ φ : Foreign, @FnOk φ P g args σ2 p σ2)

theorem mem_tmpsOf {t : Nat} : ∀ {l : List Operand}, Operand.tmp t ∈ l → t ∈ tmpsOf l
  | x :: l, h => by
    rcases List.mem_cons.1 h with rfl | h
    · exact List.mem_cons_self ..
    · have := mem_tmpsOf h
      cases x <;> simp [tmpsOf, this]
theorem ev_agree {f g : Fr} {l : List Operand} (h : ∀ t ∈ tmpsOf l, g.get t = f.get t) : ∀ x ∈ l, ev f x = ev g x := by
  intro x hx
  cases x with
  | tmp t => exact (h t (mem_tmpsOf hx)).symm
  | _ => rfl

theorem opK_step {alt : List Nat} {qt : FuncId → List PV → Sig → Cl} (hq : QuietOk P call qt) {f : Fr} {σ : Sig} {o : Oper} {k : PV → Sig → Option R} {r : R} (h : opK P call (dstIn o alt) f σ o k = some r) :
    ∃ p s, k p s = some r ∧ eff (clsA alt qt f σ o) σ s ∧ (∀ g : Fr, (∀ t ∈ tmpsOf o.op.operands.toList, g.get t = f.get t) → ∀ φ : Foreign, @OpOk φ P g σ o p s) ∧
      (isW (clsA alt qt f σ o) = false → ∀ g : Fr, (∀ t ∈ tmpsOf o.op.operands.toList, g.get t = f.get t) → ∀ σ2, agr (clsA alt qt f σ o) σ σ2 → ∀ φ : Foreign, @OpOk φ P g σ2 o p σ2) ∧ (∀ t, o.op = .alloc t → ∃ tr, oAlloc P t σ = some tr ∧ p = tr.pv ∧ s = tr.σ) := by
  unfold opK at h
  split at h
  · rename_i c x y ho
    have hev : ∀ g : Fr, (∀ t ∈ tmpsOf o.op.operands.toList, g.get t = f.get t) → ev f c = ev g c ∧ ev f x = ev g x ∧ ev f y = ev g y := by
      intro g hg
      have := ev_agree hg
      rw [ho] at this
      exact ⟨this _ (by simp [Op.operands]), this _ (by simp [Op.operands]), this _ (by simp [Op.operands])⟩
    have hcl : clsA alt qt f σ o = .pure := by unfold clsA clsOf; rw [ho]; cases dstIn o alt <;> rfl
    rw [hcl]
    split at h
    · rename_i t ht
      cases t with
      | true =>
        refine ⟨_, _, h, rfl, fun g hg φ => ?_, fun _ g hg σ2 _ φ => ?_, fun t e => by rw [ho] at e; cases e⟩ <;> obtain ⟨e1, e2, e3⟩ := hev g hg <;> rw [e2] <;> exact pick_ok ho (e1 ▸ ht)
      | false =>
        refine ⟨_, _, h, rfl, fun g hg φ => ?_, fun _ g hg σ2 _ φ => ?_, fun t e => by rw [ho] at e; cases e⟩ <;> obtain ⟨e1, e2, e3⟩ := hev g hg <;> rw [e3] <;> exact pick_ok ho (e1 ▸ ht)
    · cases h
  · rename_i c args ts ho
    split at h
    · rename_i m caps hg
      have hev : ∀ g : Fr, (∀ t ∈ tmpsOf o.op.operands.toList, g.get t = f.get t) → ev f c = ev g c ∧ evs f args.toList = evs g args.toList := by
        intro g hg
        have := ev_agree hg
        rw [ho] at this
        exact ⟨this _ (by simp [Op.operands, Call.operands]), evs_congr fun z hz => this z (by simp [Op.operands, Call.operands]; right; simpa using hz)⟩
      cases hal : dstIn o alt with
      | true =>
        rw [hal] at h
        simp only [cond_true] at h
        have hcl : clsA alt qt f σ o = .pure := by unfold clsA; rw [hal, ho]; rfl
        rw [hcl]
        split at h
        · rename_i c' p hq
          obtain ⟨h1, h2⟩ := chk_some h
          refine ⟨p, σ, h2, rfl, fun g hg' φ => ?_, fun _ g hg' σ2 _ φ => ?_, fun t e => by rw [ho] at e; cases e⟩ <;> obtain ⟨e1, e2⟩ := hev g hg' <;> exact for_ok ho (e1 ▸ hg) (e2 ▸ hq) h1
        · cases h
      | false =>
      rw [hal] at h
      have hcl : clsA alt qt f σ o = qt m (evs f args.toList ++ caps) σ := by
        unfold clsA clsOf
        rw [ho, hal]
        simp only [hg]
        rfl
      obtain ⟨p, s, hk, hf, he, hef, hkd⟩ := hq _ _ _ _ _ _ h
      rw [← hcl] at hef hkd
      have hrun : ∀ g : Fr, (∀ t ∈ tmpsOf o.op.operands.toList, g.get t = f.get t) → ∀ φ : Foreign, @OpOk φ P g σ o p s := fun g hg' φ => by
        obtain ⟨e1, e2⟩ := hev g hg'
        exact @call_ok φ _ _ _ _ _ _ _ _ _ _ _ ho (e1 ▸ hg) (e2 ▸ hf φ) he
      refine ⟨p, s, hk, hef, hrun, fun h0 g hg' σ2 ha φ => ?_, fun t e => by rw [ho] at e; cases e⟩
      obtain ⟨e1, e2⟩ := hev g hg'
      exact call_ok ho (e1 ▸ hg) (e2 ▸ hkd h0 σ2 ha φ) he
    · cases h
  · rename_i hne1 hne2
    split at h
    · rename_i t ht
      obtain ⟨h1, h2⟩ := chk_some h
      cases hal : dstIn o alt with
      | true =>
        rw [hal] at ht
        simp only [cond_true] at ht
        obtain ⟨p1, p2⟩ := oAlt_cls (qt := qt) hal ht
        refine ⟨_, _, h2, p1, fun g hg φ => ?_, fun h0 g hg σ2 ha φ => ?_, fun t e => by unfold oAlt at ht; rw [e] at ht; cases ht⟩
        · exact oAlt_ok (by rw [← oAlt_congr (ev_agree hg)]; exact ht) h1
        · have := p2 h0 σ2 ha
          simp only at this
          rw [oAlt_congr (ev_agree hg)] at this
          exact oAlt_ok this h1
      | false =>
      rw [hal] at ht
      simp only [cond_false] at ht
      have hcl : clsA alt qt f σ o = clsOf qt f σ o := by unfold clsA; rw [hal]; rfl
      rw [hcl]
      obtain ⟨p1, p2⟩ := stp_cls (qt := qt) (fun g args ts e => hne2 g args ts e) ht
      refine ⟨_, _, h2, p1, fun g hg φ => ?_, fun h0 g hg σ2 ha φ => ?_, fun t' e => ⟨t, by unfold stp at ht; rw [e] at ht; exact ht, rfl, rfl⟩⟩
      · exact stp_ok (by rw [← stp_congr (ev_agree hg)]; exact ht) h1
      · have := p2 h0 σ2 ha
        simp only at this
        rw [stp_congr (ev_agree hg)] at this
        exact stp_ok this h1
    · cases h

/-! ### the run in the text's order -/
def putF (F : Nat → PV) (d : Option Nat) (p : PV) : Nat → PV := fun t => match d with
  | some d => if d = t then p else F t
  | none => F t
theorem put_putF {f : Fr} {F : Nat → PV} (h : ∀ t, f.get t = F t) (d : Option Nat) (p : PV) (t : Nat) : (f.put d p).get t = putF F d p t := by
  cases d with
  | none => exact h t
  | some d =>
    simp only [Fr.put, Fr.get, putF]
    by_cases e : d = t
    · subst e; simp [show Nat.beq d d = true from Nat.beq_refl d]
    · rw [nbeq e]; simp [e, h t]
theorem shadow_get {f : Fr} {F : Nat → PV} (h : ∀ t, f.get t = F t) {d : Nat} {p : PV} (hd : f.get d = p) (t : Nat) : Fr.get ((d, p) :: f) t = F t := by
  simp only [Fr.get]
  by_cases e : d = t
  · subst e; rw [show Nat.beq d d = true from Nat.beq_refl d]; rw [← h d]; exact hd.symm
  · rw [nbeq e]; exact h t

structure Trace (P : Program) (all : List Oper) (l : List Oper) (F0 : Nat → PV) (σ0 : Sig) (p : Nat → PV) (c : Nat → Cl) (s : Nat → Sig) (F : Nat → Nat → PV) : Prop where
  f0 : F 0 = F0
  s0 : s 0 = σ0
  step : ∀ i o, l[i]? = some o → StepD P all (F i) (s i) o (c i) (p i) (s (i + 1)) ∧ F (i + 1) = putF (F i) o.dst (p i)

def consN {α : Type} (x : α) (f : Nat → α) : Nat → α
  | 0 => x
  | i + 1 => f i
theorem Trace.cons {l : List Oper} {o : Oper} {F0 : Nat → PV} {σ0 s1 : Sig} {p0 : PV} {c0 : Cl} {p : Nat → PV} {c : Nat → Cl} {s : Nat → Sig} {F : Nat → Nat → PV}
    (h0 : StepD P all F0 σ0 o c0 p0 s1) (h : Trace P all l (putF F0 o.dst p0) s1 p c s F) : Trace P all (o :: l) F0 σ0 (consN p0 p) (consN c0 c) (consN σ0 s) (consN F0 F) where
  f0 := rfl
  s0 := rfl
  step := fun i x hx => by
    cases i with
    | zero =>
      cases hx
      refine ⟨?_, ?_⟩
      · show StepD P all F0 σ0 o c0 p0 (s 0)
        rw [h.s0]; exact h0
      · exact h.f0
    | succ i => exact h.step i x (by simpa using hx)

theorem yielded_of {σ : Sig} {pb : Pb} {w : World} {g : Fr} {a : Act} {j d : Nat} {t : Bool} (hj : gdst all j = some d) (hd : g.get d = .v (.bool t)) (hf : FR σ pb w g a.tmps) : yielded all.toArray a.tmps j = some t := by
  have hv := hf d
  rw [hd] at hv
  have hv : a.tmps.getD d undef = .bool t := hv
  have hlt : a.tmps[d]? = some (.bool t) := by
    rw [Array.getD_eq_getD_getElem?] at hv
    cases he : a.tmps[d]? with
    | none => rw [he] at hv; cases hv
    | some z => rw [he] at hv; exact congrArg some hv
  unfold yielded
  unfold gdst at hj
  have : (all.toArray[j]?) = all[j]? := by simp
  rw [this]
  cases hal : all[j]? with
  | none => rw [hal] at hj; cases hj
  | some z =>
    rw [hal] at hj
    simp only at hj
    simp [hj, hlt]

theorem opsD_sound {alt : List Nat} {qt : FuncId → List PV → Sig → Cl} (hq : QuietOk P call qt) : ∀ (l : List Oper) (cl : List Cl) (f : Fr) (F0 : Nat → PV) (σ : Sig) (k : List Cl → Fr → Sig → Option R) (r : R),
    (∀ t, f.get t = F0 t) → opsD P call alt qt all l cl f σ k = some r →
    ∃ p cs s F f', k (cl ++ cs) f' (s l.length) = some r ∧ (∀ t, f'.get t = F l.length t) ∧ ∃ c, (∀ i, i < l.length → cs.getD i .pure = c i) ∧ Trace P all l F0 σ p c s F := by
  intro l
  induction l with
  | nil =>
    intro cl f F0 σ k r hf h
    exact ⟨fun _ => .dead, [], fun _ => σ, fun _ => F0, f, by simpa [opsD] using h, hf, fun _ => .pure, fun i hi => by simp at hi, rfl, rfl, fun i o ho => by simp at ho⟩
  | cons o l ih =>
    intro cl f F0 σ k r hf h
    -- a step done, then the rest
    have glue : ∀ (g : Fr) (c0 : Cl) (p0 : PV) (s1 : Sig), (∀ t, g.get t = F0 t) → StepD P all F0 σ o c0 p0 s1 → opsD P call alt qt all l (cl ++ [c0]) (g.put o.dst p0) s1 k = some r →
        ∃ p cs s F f', k (cl ++ cs) f' (s (o :: l).length) = some r ∧ (∀ t, f'.get t = F (o :: l).length t) ∧ ∃ c, (∀ i, i < (o :: l).length → cs.getD i .pure = c i) ∧ Trace P all (o :: l) F0 σ p c s F := by
      intro g c0 p0 s1 hg hs h
      obtain ⟨p, cs, s, F, f', k1, k2, c, k3, k4⟩ := ih _ _ (putF F0 o.dst p0) _ _ _ (put_putF hg o.dst p0) h
      refine ⟨consN p0 p, c0 :: cs, consN σ s, consN F0 F, f', by simpa [consN] using k1, by simpa [consN] using k2, consN c0 c, fun i hi => ?_, k4.cons hs⟩
      cases i with
      | zero => rfl
      | succ i => simpa [consN] using k3 i (by simpa using hi)
    -- a step that is wanted
    have one : ∀ (g : Fr), (∀ t, g.get t = F0 t) → (∀ (g' : Fr), (∀ t ∈ readsOf all o, g'.get t = F0 t) → ∀ (φ : Foreign) σ pb w (a : Act), @FR φ σ pb w g' a.tmps → Region.wanted o (yielded all.toArray a.tmps) = true) →
        opK P call (dstIn o alt) g σ o (fun p σ' => opsD P call alt qt all l (cl ++ [clsA alt qt g σ o]) (g.put o.dst p) σ' k) = some r →
        ∃ p cs s F f', k (cl ++ cs) f' (s (o :: l).length) = some r ∧ (∀ t, f'.get t = F (o :: l).length t) ∧ ∃ c, (∀ i, i < (o :: l).length → cs.getD i .pure = c i) ∧ Trace P all (o :: l) F0 σ p c s F := by
      intro g hg hw h
      obtain ⟨p0, s1, h1, h2, h3, h4, h5⟩ := opK_step hq h
      have sub : ∀ (g' : Fr), (∀ t ∈ readsOf all o, g'.get t = F0 t) → ∀ t ∈ tmpsOf o.op.operands.toList, g'.get t = g.get t := fun g' hg' t ht => by
        rw [hg t]; exact hg' t (List.mem_append_right _ ht)
      refine glue g _ p0 s1 hg ⟨h2, fun g' hg' => ?_, fun h0 g' hg' σ2 ha => ?_, fun t e _ => h5 t e⟩ h1
      · intro φ base pb w a hs hf K Q hk
        unfold wpGo
        rw [if_pos (hw g' hg' φ _ _ _ _ hf)]
        exact .inl (h3 g' (sub g' hg') φ base pb w a hs hf _ _ hk)
      · intro φ base pb w a hs hf K Q hk
        unfold wpGo
        rw [if_pos (hw g' hg' φ _ _ _ _ hf)]
        exact .inl (h4 h0 g' (sub g' hg') σ2 ha φ base pb w a hs hf _ _ hk)
    have skip : o.guard ≠ none → ∀ (g : Fr), (∀ t, g.get t = F0 t) → (∀ (g' : Fr), (∀ t ∈ readsOf all o, g'.get t = F0 t) → ∀ (φ : Foreign) σ pb w (a : Act), @FR φ σ pb w g' a.tmps → ¬ Region.wanted o (yielded all.toArray a.tmps) = true) →
        opsD P call alt qt all l (cl ++ [.pure]) (g.put o.dst undefV) σ k = some r →
        ∃ p cs s F f', k (cl ++ cs) f' (s (o :: l).length) = some r ∧ (∀ t, f'.get t = F (o :: l).length t) ∧ ∃ c, (∀ i, i < (o :: l).length → cs.getD i .pure = c i) ∧ Trace P all (o :: l) F0 σ p c s F := by
      intro hgn g hg hw h
      have : ∀ σ2 (g' : Fr), (∀ t ∈ readsOf all o, g'.get t = F0 t) → GStep P all g' σ2 o undefV σ2 := by
        intro σ2 g' hg' φ base pb w a hs hf K Q hk
        unfold wpGo
        rw [if_neg (hw g' hg' φ _ _ _ _ hf)]
        exact hk pb w undef hs (@Ext.refl φ _ _ _) rfl
      exact glue g .pure undefV σ hg ⟨rfl, this σ, fun _ g' hg' σ2 _ => this σ2 g' hg', fun t _ e => absurd e hgn⟩ h
    unfold opsD at h
    cases hg : o.guard with
    | none =>
      rw [hg] at h
      exact one f hf (fun g' hg' φ σ pb w a _ => by simp [Region.wanted, hg]) h
    | some jw =>
      obtain ⟨j, want⟩ := jw
      rw [hg] at h
      simp only at h
      cases hj : gdst all j with
      | none => rw [hj] at h; cases h
      | some d =>
        rw [hj] at h
        simp only at h
        have hmem : d ∈ readsOf all o := by unfold readsOf; rw [hg]; simp [hj]
        split at h
        · rename_i t ht
          have hF : F0 d = .v (.bool t) := by rw [← hf d]; exact ht
          have hy : ∀ (g' : Fr), (∀ t ∈ readsOf all o, g'.get t = F0 t) → ∀ (φ : Foreign) σ pb w (a : Act), @FR φ σ pb w g' a.tmps → yielded all.toArray a.tmps j = some t :=
            fun g' hg' φ σ pb w a hfr => yielded_of hj (by rw [hg' d hmem, hF]) hfr
          cases t <;> cases want <;> simp only [sel] at h
          · exact one _ (shadow_get hf ht) (fun g' hg' φ σ pb w a hfr => by simp [Region.wanted, hg, hy g' hg' φ σ pb w a hfr]) h
          · exact skip (by rw [hg]; simp) _ (shadow_get hf ht) (fun g' hg' φ σ pb w a hfr => by simp [Region.wanted, hg, hy g' hg' φ σ pb w a hfr]) h
          · exact skip (by rw [hg]; simp) _ (shadow_get hf ht) (fun g' hg' φ σ pb w a hfr => by simp [Region.wanted, hg, hy g' hg' φ σ pb w a hfr]) h
          · exact one _ (shadow_get hf ht) (fun g' hg' φ σ pb w a hfr => by simp [Region.wanted, hg, hy g' hg' φ σ pb w a hfr]) h
        · rename_i u ht
          have hF : F0 d = .v (.tuple u) := by rw [← hf d]; exact ht
          exact skip (by rw [hg]; simp) _ hf (fun g' hg' φ σ pb w a hfr => by simp [Region.wanted, hg, yielded_none hj (by rw [hg' d hmem, hF]) hfr]) h
        · cases h

/-! ### every order -/
def cnt (L : Array Bool) : Nat → Nat
  | 0 => 0
  | i + 1 => cnt L i + (if L.getD i false = true then 0 else 1)
theorem cnt_above {L : Array Bool} {i : Nat} : ∀ m, m ≤ i → cnt (L.setIfInBounds i true) m = cnt L m := by
  intro m
  induction m with
  | zero => intro _; rfl
  | succ m ih =>
    intro hm
    have e : i ≠ m := by omega
    simp only [cnt]
    rw [ih (by omega)]
    simp [Array.getD_eq_getD_getElem?, Array.getElem?_setIfInBounds, e]
theorem cnt_set {L : Array Bool} {i : Nat} (hi : i < L.size) (hL : L.getD i false = false) : ∀ m, i < m → cnt (L.setIfInBounds i true) m + 1 = cnt L m := by
  intro m
  induction m with
  | zero => intro h; omega
  | succ m ih =>
    intro hm
    simp only [cnt]
    by_cases e : i = m
    · subst e
      rw [cnt_above i (Nat.le_refl _), hL]
      simp [Array.getD_eq_getD_getElem?, Array.getElem?_setIfInBounds, hi]
    · have := ih (by omega)
      have : (L.setIfInBounds i true).getD m false = L.getD m false := by simp [Array.getD_eq_getD_getElem?, Array.getElem?_setIfInBounds, e]
      rw [this]
      omega
theorem cnt_zero {L : Array Bool} : ∀ {m : Nat}, cnt L m = 0 → ∀ i, i < m → L.getD i false = true := by
  intro m
  induction m with
  | zero => intro _ i hi; omega
  | succ m ih =>
    intro h i hi
    simp only [cnt] at h
    by_cases e : i = m
    · subst e
      cases hL : L.getD i false with
      | true => rfl
      | false => rw [hL] at h; simp at h
    · exact ih (by omega) i (by omega)

theorem seq_same {s : Nat → Sig} {a b : Nat} (hab : a ≤ b) (h : ∀ k, a ≤ k → k < b → s (k + 1) = s k) : s b = s a := by
  induction b with
  | zero => have : a = 0 := by omega
            rw [this]
  | succ b ih =>
    by_cases e : a = b + 1
    · rw [e]
    · rw [h b (by omega) (by omega), ih (by omega) fun k h1 h2 => h k h1 (by omega)]

def Canon (all : List Oper) (F0 : Nat → PV) (p : Nat → PV) (L : Nat → Prop) (F : Nat → PV) : Prop :=
  (∀ j o x, all[j]? = some o → L j → o.dst = some x → F x = p j) ∧ ∀ x, (∀ j o, all[j]? = some o → L j → o.dst ≠ some x) → F x = F0 x
theorem Canon.put {F0 : Nat → PV} {p : Nat → PV} {L : Nat → Prop} {F : Nat → PV} {i : Nat} {o : Oper} (h : Canon all F0 p L F) (ho : all[i]? = some o)
    (hd : ∀ j q x, all[j]? = some q → j ≠ i → o.dst = some x → q.dst ≠ some x) : Canon all F0 p (fun j => j = i ∨ L j) (putF F o.dst (p i)) := by
  constructor
  · intro j q x hq hL hx
    by_cases e : j = i
    · subst e
      rw [ho] at hq; cases hq
      simp [putF, hx]
    · have hL : L j := hL.resolve_left e
      have := h.1 j q x hq hL hx
      unfold putF
      cases hod : o.dst with
      | none => exact this
      | some d =>
        have hne : d ≠ x := fun e2 => hd j q d hq e hod (e2 ▸ hx)
        simp [hne, this]
  · intro x hx
    have := h.2 x fun j q hq hL => hx j q hq (.inr hL)
    unfold putF
    cases hod : o.dst with
    | none => exact this
    | some d =>
      have hne : d ≠ x := fun e2 => hx i o ho (.inl rfl) (e2 ▸ hod)
      simp [hne, this]
theorem Canon.same {F0 : Nat → PV} {p : Nat → PV} {L M : Nat → Prop} {F G : Nat → PV} (h : Canon all F0 p L F) (k : Canon all F0 p M G) {x : Nat}
    (hx : ∀ j o, all[j]? = some o → o.dst = some x → (L j ↔ M j)) : F x = G x := by
  by_cases e : ∃ j o, all[j]? = some o ∧ L j ∧ o.dst = some x
  · obtain ⟨j, o, h1, h2, h3⟩ := e
    rw [h.1 j o x h1 h2 h3, k.1 j o x h1 ((hx j o h1 h3).1 h2) h3]
  · have e1 : ∀ j o, all[j]? = some o → L j → o.dst ≠ some x := fun j o h1 h2 h3 => e ⟨j, o, h1, h2, h3⟩
    rw [h.2 x e1, k.2 x fun j o h1 h2 h3 => e1 j o h1 ((hx j o h1 h3).2 h2) h3]

theorem apart_spec {bm : List Nat} {cls : List Cl} {i j : Nat} {o q : Oper} (ho : all[i]? = some o) (hq : all[j]? = some q) (h : apartB all bm cls i j = true) :
    sameDst o q = false ∧ (Nat.testBit (bm.getD j 0) i = true ∨ (dstIn o (readsOf all q) = false ∧ dstIn q (readsOf all o) = false ∧
      (isW (cls.getD i .pure) = true → hits (cls.getD i .pure) (cls.getD j .pure) = false) ∧ (isW (cls.getD j .pure) = true → hits (cls.getD j .pure) (cls.getD i .pure) = false))) := by
  unfold apartB at h
  rw [ho, hq] at h
  simp only [Bool.and_eq_true, Bool.or_eq_true, Bool.not_eq_true'] at h
  refine ⟨h.1, h.2.imp id fun k => ⟨k.1.1, k.1.2, fun e => ?_, fun e => ?_⟩⟩
  · have := (Bool.or_eq_false_iff.1 k.2).1
    rw [e] at this
    simpa using this
  · have := (Bool.or_eq_false_iff.1 k.2).2
    rw [e] at this
    simpa using this

theorem okDsts_lt {l : List Oper} (h : okDsts n l = true) : ∀ o ∈ l, ∀ t, o.dst = some t → t < n := by
  induction l with
  | nil => intro o ho; cases ho
  | cons x l ih =>
    intro o ho t ht
    unfold okDsts at h
    rw [Bool.and_eq_true] at h
    rcases List.mem_cons.1 ho with rfl | ho
    · have := h.1
      rw [ht] at this
      simpa using this
    · exact ih h.2 o ho t ht
theorem mem_ready {L : Array Bool} (hL : L.size = all.length) {i : Nat} : i ∈ Region.ready .any all.toArray L ↔
    L.getD i false = false ∧ ∃ o, all[i]? = some o ∧ ∀ e ∈ o.after.toList, Region.binds .any e = true → L.getD e.on false = true := by
  unfold Region.ready
  rw [List.mem_filter, List.mem_range]
  constructor
  · rintro ⟨h1, h2⟩
    have h1 : i < all.length := by simpa using h1
    have ho : all.toArray[i]? = some all[i] := by simp [h1]
    rw [ho] at h2
    simp only [Option.map_some, Option.getD_some, Bool.and_eq_true, Bool.not_eq_true'] at h2
    refine ⟨?_, all[i], List.getElem?_eq_getElem h1, fun e he hb => ?_⟩
    · have := h2.1
      simp [Array.getD_eq_getD_getElem?, hL, h1] at this ⊢
      exact this
    · have := Array.all_eq_true'.1 h2.2 e (by simpa using he)
      simpa [hb] using this
  · rintro ⟨h1, o, ho, h2⟩
    have hlt : i < all.length := (List.getElem?_eq_some_iff.1 ho).1
    have ho' : all.toArray[i]? = some o := by simpa using ho
    refine ⟨by simpa using hlt, ?_⟩
    rw [ho']
    simp only [Option.map_some, Option.getD_some, Bool.and_eq_true, Bool.not_eq_true']
    refine ⟨?_, Array.all_eq_true'.2 fun e he => ?_⟩
    · simp [Array.getD_eq_getD_getElem?, hL, hlt] at h1 ⊢
      exact h1
    · have := h2 e (by simpa using he)
      cases hb : Region.binds .any e with
      | false => rfl
      | true => simpa using this hb

/-- Every order, from where some are listed. -/
theorem draw_main {B : Nat → Prop} {F0 : Nat → PV} {σ0 σs : Sig} {p : Nat → PV} {c : Nat → Cl} {s : Nat → Sig} {F : Nat → Nat → PV} {f' : Fr} (hE : allEdges 0 all = true) (hself : selfOk all all = true)
    (hdist : ∀ (i j : Nat) (o q : Oper) (x : Nat), all[i]? = some o → all[j]? = some q → j ≠ i → o.dst = some x → q.dst ≠ some x)
    (hap : ∀ (i j : Nat) (o q : Oper), all[i]? = some o → all[j]? = some q → i < j → ¬ (B i ∧ B j) → (Nat.testBit ((bms [] all).getD j 0) i = true ∨ (dstIn o (readsOf all q) = false ∧ dstIn q (readsOf all o) = false ∧
      (isW (c i) = true → hits (c i) (c j) = false) ∧ (isW (c j) = true → hits (c j) (c i) = false))))
    (ht : Trace P all all F0 σ0 p c s F) (hf' : ∀ t, f'.get t = F all.length t) (hok : okDsts n all = true) {base : Nat} {pb : Pb} {w : World} {a : Act} {Q : Exit → Act → World → Prop}
    (hq : ∀ pb' w' (a' : Act), St base (s all.length) pb' w' → Ext σs pb w (s all.length) pb' w' → FR (s all.length) pb' w' f' a'.tmps → a'.tmps.size = n → Kp all a a' → Q .normal a' w') :
    ∀ fuel (L : Array Bool) (pb1 : Pb) (w1 : World) (a1 : Act) (m : Nat) (g : Fr), (∀ i, B i → L.getD i false = true) → L.size = all.length → cnt L all.length ≤ fuel →
      (∀ j i, j < all.length → L.getD j false = true → Nat.testBit ((bms [] all).getD j 0) i = true → L.getD i false = true) → m ≤ all.length →
      (∀ i, i < all.length → isW (c i) = true → (L.getD i false = true ↔ i < m)) → Canon all F0 p (fun j => L.getD j false = true) g.get →
      St base (s m) pb1 w1 → Ext σs pb w (s m) pb1 w1 → FR (s m) pb1 w1 g a1.tmps → a1.tmps.size = n → Kp all a a1 → wpAny P .any all.toArray Q fuel L a1 w1 := by
  obtain ⟨-, hbm⟩ := bms_spec all [] hE
  have hon := allEdges_on hE
  generalize hbe : bms [] all = bm at hbm hap ⊢
  simp only [List.length_nil, Nat.zero_add] at hbm hon
  have lt_of {i : Nat} {o : Oper} (h : all[i]? = some o) : i < all.length := (List.getElem?_eq_some_iff.1 h).1
  -- frames of the text's order
  have hcan : ∀ i, i ≤ all.length → Canon all F0 p (fun j => j < i) (F i) := by
    intro i
    induction i with
    | zero => intro _; rw [ht.f0]; exact ⟨fun j o x _ h => absurd h (by omega), fun x _ => rfl⟩
    | succ i ih =>
      intro hi
      have hlt : i < all.length := by omega
      have ho : all[i]? = some all[i] := List.getElem?_eq_getElem hlt
      have := (ih (by omega)).put ho fun j q x hq hne hx => hdist i j _ q x ho hq hne hx
      rw [(ht.step i _ ho).2]
      refine ⟨fun j o x h1 h2 h3 => this.1 j o x h1 (by simp only at h2 ⊢; omega) h3, fun x hx => this.2 x fun j o h1 h2 => hx j o h1 (by simp only at h2 ⊢; omega)⟩
  -- the invariant
  have main : ∀ fuel (L : Array Bool) (pb1 : Pb) (w1 : World) (a1 : Act) (m : Nat) (g : Fr), (∀ i, B i → L.getD i false = true) → L.size = all.length → cnt L all.length ≤ fuel →
      (∀ j i, j < all.length → L.getD j false = true → Nat.testBit (bm.getD j 0) i = true → L.getD i false = true) → m ≤ all.length →
      (∀ i, i < all.length → isW (c i) = true → (L.getD i false = true ↔ i < m)) → Canon all F0 p (fun j => L.getD j false = true) g.get →
      St base (s m) pb1 w1 → Ext σs pb w (s m) pb1 w1 → FR (s m) pb1 w1 g a1.tmps → a1.tmps.size = n → Kp all a a1 → wpAny P .any all.toArray Q fuel L a1 w1 := by
    -- all listed
    have done : ∀ (L : Array Bool) (pb1 : Pb) (w1 : World) (a1 : Act) (m : Nat) (g : Fr), m ≤ all.length →
        (∀ i, i < all.length → isW (c i) = true → (L.getD i false = true ↔ i < m)) → Canon all F0 p (fun j => L.getD j false = true) g.get →
        St base (s m) pb1 w1 → Ext σs pb w (s m) pb1 w1 → FR (s m) pb1 w1 g a1.tmps → a1.tmps.size = n → Kp all a a1 → (∀ i, i < all.length → L.getD i false = true) → Q .normal a1 w1 := by
      intro L pb1 w1 a1 m g hmn hw hc hst hext hfr hsz hdf hall
      have e : s all.length = s m := seq_same hmn fun k h1 h2 => by
        have ho : all[k]? = some all[k] := List.getElem?_eq_getElem h2
        refine eff_keep (ht.step k _ ho).1.keep (Bool.eq_false_iff.2 fun h => ?_)
        have := (hw k h2 h).1 (hall k h2)
        omega
      refine hq pb1 w1 a1 (e ▸ hst) (e ▸ hext) ?_ hsz hdf
      rw [e]
      intro t
      have := hfr t
      rw [hc.same (hcan all.length (Nat.le_refl _)) (x := t) fun j o ho _ => ⟨fun _ => lt_of ho, fun h => hall j h⟩, ← hf' t] at this
      exact this
    intro fuel
    induction fuel with
    | zero =>
      intro L pb1 w1 a1 m g hBL hL hcnt hdown hmn hw hc hst hext hfr hsz hdf
      have hall := cnt_zero (Nat.le_zero.1 hcnt)
      refine ⟨?_, done L pb1 w1 a1 m g hmn hw hc hst hext hfr hsz hdf hall⟩
      rw [List.eq_nil_iff_forall_not_mem]
      intro i hi
      obtain ⟨h1, o, ho, -⟩ := (mem_ready hL).1 hi
      rw [hall i (lt_of ho)] at h1
      cases h1
    | succ fuel ih =>
      intro L pb1 w1 a1 m g hBL hL hcnt hdown hmn hw hc hst hext hfr hsz hdf
      refine ⟨fun hr => ?_, fun i hi => ?_⟩
      · refine done L pb1 w1 a1 m g hmn hw hc hst hext hfr hsz hdf fun i => ?_
        induction i using Nat.strongRecOn with
        | ind i ihi =>
          intro hlt
          cases hLi : L.getD i false with
          | true => rfl
          | false =>
            have ho : all[i]? = some all[i] := List.getElem?_eq_getElem hlt
            have : i ∈ Region.ready .any all.toArray L := (mem_ready hL).2 ⟨hLi, _, ho, fun e he hb => by
              have := hon i _ ho e he hb
              exact ihi e.on this (by omega)⟩
            rw [hr] at this
            cases this
      · obtain ⟨hLi, o, ho, hedge⟩ := (mem_ready hL).1 hi
        have hlt := lt_of ho
        have hni : ¬ B i := fun h => by rw [hBL i h] at hLi; cases hLi
        have hanc : ∀ j, Nat.testBit (bm.getD i 0) j = true → L.getD j false = true := by
          intro j hb
          obtain ⟨e, h1, h2, h3⟩ := hbm i o ho j hb
          have hle := hedge e h1 h2
          rcases h3 with h3 | h3
          · rw [← h3]; exact hle
          · exact hdown e.on j (by have := hon i o ho e h1 h2; omega) hle h3
        have hdesc : ∀ j, j < all.length → Nat.testBit (bm.getD j 0) i = true → L.getD j false = false := by
          intro j hj hb
          cases hLj : L.getD j false with
          | false => rfl
          | true => rw [hdown j i hj hLj hb] at hLi; cases hLi
        obtain ⟨hstep, hF⟩ := ht.step i o ho
        -- what it looks at
        have hag : ∀ t ∈ readsOf all o, g.get t = F i t := by
          intro t htm
          refine hc.same (hcan i (by omega)) fun j q hq hx => ?_
          rcases Nat.lt_trichotomy j i with h | h | h
          · refine ⟨fun _ => h, fun _ => ?_⟩
            rcases hap j i q o hq ho h (fun h => hni h.2) with k | k
            · exact hanc j k
            · exact absurd htm (dstIn_not k.1 hx)
          · subst h
            rw [ho] at hq; cases hq
            exact absurd htm (dstIn_not (selfOk_spec hself _ (List.mem_of_getElem? ho)) hx)
          · refine ⟨fun hl => ?_, fun h' => by omega⟩
            rcases hap i j o q ho hq h (fun h => hni h.1) with k | k
            · rw [hdesc j (lt_of hq) k] at hl; cases hl
            · exact absurd htm (dstIn_not k.2.1 hx)
        -- its memory
        have hearly : ∀ j, j < i → L.getD j false = false → isW (c j) = true → hits (c j) (c i) = false := by
          intro j hj hl hw2
          have hjl : j < all.length := by omega
          have hq : all[j]? = some all[j] := List.getElem?_eq_getElem hjl
          rcases hap j i _ o hq ho hj (fun h => hni h.2) with k | k
          · rw [hanc j k] at hl; cases hl
          · exact k.2.2.1 hw2
        have hlate : ∀ j, i < j → j < all.length → L.getD j false = true → isW (c j) = true → hits (c j) (c i) = false := by
          intro j hj hjl hl hw2
          have hq : all[j]? = some all[j] := List.getElem?_eq_getElem hjl
          rcases hap i j o _ ho hq hj (fun h => hni h.1) with k | k
          · rw [hdesc j hjl k] at hl; cases hl
          · exact k.2.2.2 hw2
        have hwr : isW (c i) = true → ∀ j, j < all.length → j ≠ i → isW (c j) = true → (L.getD j false = true ↔ j < i) := by
          intro hci j hj hne hcj
          rcases Nat.lt_or_ge j i with h | h
          · refine ⟨fun _ => h, fun _ => ?_⟩
            cases hl : L.getD j false with
            | true => rfl
            | false => have := hearly j h hl hcj; rw [hits_wr hcj hci] at this; cases this
          · refine ⟨fun hl => ?_, fun h' => by omega⟩
            have := hlate j (by omega) hj hl hcj
            rw [hits_wr hcj hci] at this
            cases this
        have heff : ∀ k, k < all.length → eff (c k) (s k) (s (k + 1)) := fun k hk => (ht.step k _ (List.getElem?_eq_getElem hk)).1.keep
        have hkeep : ∀ k, k < all.length → isW (c k) = false → s (k + 1) = s k := fun k hk hck => eff_keep (heff k hk) hck
        have hsm : isW (c i) = true → s m = s i := by
          intro hci
          rcases Nat.le_total m i with h | h
          · refine (seq_same h fun k h1 h2 => hkeep k (by omega) (Bool.eq_false_iff.2 fun hck => ?_)).symm
            have e1 := hw k (by omega) hck
            have e2 := hwr hci k (by omega) (by omega) hck
            have := e1.1 (e2.2 h2)
            omega
          · refine seq_same h fun k h1 h2 => hkeep k (by omega) (Bool.eq_false_iff.2 fun hck => ?_)
            have e1 := hw k (by omega) hck
            by_cases hki : k = i
            · subst hki
              rw [e1.2 h2] at hLi; cases hLi
            · have e2 := hwr hci k (by omega) hki hck
              have := e2.1 (e1.2 h2)
              omega
        have hgo : ∀ {a b : Nat}, a ≤ b → b ≤ all.length → (∀ k, a ≤ k → k < b → isW (c k) = true → hits (c k) (c i) = false) → agr (c i) (s a) (s b) := by
          intro a b hab
          induction b with
          | zero => intro _ _; have : a = 0 := by omega
                    rw [this]; exact agr_refl _ _
          | succ b ihb =>
            intro hb hk
            by_cases e : a = b + 1
            · rw [e]; exact agr_refl _ _
            · refine agr_trans (ihb (by omega) (by omega) fun k h1 h2 => hk k h1 (by omega)) ?_
              cases hwb : isW (c b) with
              | true => exact eff_agr hwb (hk b (by omega) (by omega) hwb) (heff b (by omega))
              | false => rw [hkeep b (by omega) hwb]; exact agr_refl _ _
        have hrd : isW (c i) = false → agr (c i) (s i) (s m) := by
          intro hci
          rcases Nat.le_total m i with h | h
          · refine agr_symm (hgo h (by omega) fun k h1 h2 hck => hearly k h2 ?_ hck)
            cases hl : L.getD k false with
            | false => rfl
            | true => have := (hw k (by omega) hck).1 hl; omega
          · refine hgo h hmn fun k h1 h2 hck => ?_
            have hl := (hw k (by omega) hck).2 h2
            by_cases hki : k = i
            · subst hki; rw [hck] at hci; cases hci
            · exact hlate k (by omega) (by omega) hl hck
        -- what then
        have next : ∀ m', m' ≤ all.length → (∀ j, j < all.length → isW (c j) = true → ((L.setIfInBounds i true).getD j false = true ↔ j < m')) → GStep P all g (s m) o (p i) (s m') →
            wpOp P all.toArray Q i (wpAny P .any all.toArray Q fuel (L.setIfInBounds i true)) a1 w1 := by
          intro m' hm' hw' hg
          unfold wpOp
          rw [show all.toArray[i]? = some o by simpa using ho]
          refine hg _ base pb1 w1 a1 hst hfr _ Q fun pb2 w2 y hs2 he2 hv2 => ?_
          have hset : ∀ j, (L.setIfInBounds i true).getD j false = true ↔ (j = i ∨ L.getD j false = true) := by
            intro j
            by_cases e : j = i
            · subst e; simp [Array.getD_eq_getD_getElem?, Array.getElem?_setIfInBounds, hL, hlt]
            · have e' : i ≠ j := fun h => e h.symm
              simp [Array.getD_eq_getD_getElem?, Array.getElem?_setIfInBounds, e, e']
          have hdo : ∀ t, o.dst = some t → t < n := okDsts_lt hok o (List.mem_of_getElem? ho)
          refine ih (L.setIfInBounds i true) pb2 w2 (a1.put o.dst y) m' (g.put o.dst (p i)) (fun j hj => (hset j).2 (.inr (hBL j hj))) (by simpa using hL) ?_ ?_ hm' hw' ?_ hs2 (hext.trans he2) (FR.put (hfr.ext he2) (fun t ht => by rw [hsz]; exact hdo t ht) hv2) (by rw [Act.put_size, hsz]) (hdf.put (List.mem_of_getElem? ho))
          · have := cnt_set (L := L) (by omega) hLi all.length hlt
            omega
          · intro j k hj h1 h2
            rw [hset] at h1 ⊢
            rcases h1 with rfl | h1
            · exact .inr (hanc k h2)
            · exact .inr (hdown j k hj h1 h2)
          · have := hc.put ho fun j q x hq hne hx => hdist i j o q x ho hq hne hx
            have e : (g.put o.dst (p i)).get = putF g.get o.dst (p i) := funext fun t => put_putF (fun _ => rfl) _ _ t
            rw [e]
            exact ⟨fun j q x h1 h2 h3 => this.1 j q x h1 ((hset j).1 h2) h3, fun x hx => this.2 x fun j q h1 h2 => hx j q h1 ((hset j).2 h2)⟩
        have hset' : ∀ j, j ≠ i → (L.setIfInBounds i true).getD j false = L.getD j false := by
          intro j e
          have e' : i ≠ j := fun h => e h.symm
          simp [Array.getD_eq_getD_getElem?, Array.getElem?_setIfInBounds, e']
        cases hc2 : isW (c i) with
        | true =>
          refine next (i + 1) (by omega) (fun j hj hcj => ?_) ?_
          · by_cases e : j = i
            · subst e
              simp [Array.getD_eq_getD_getElem?, Array.getElem?_setIfInBounds, hL, hlt]
            · rw [hset' j e, hwr hc2 j hj e hcj]
              omega
          · rw [hsm hc2]
            exact hstep.run g hag
        | false =>
          refine next m hmn (fun j hj hcj => ?_) (hstep.free hc2 g hag (s m) (hrd hc2))
          have e : j ≠ i := fun e => by rw [e, hc2] at hcj; cases hcj
          rw [hset' j e]
          exact hw j hj hcj
  exact main
theorem draw_sound (hm : P.follows .mixedOrders = true) {id : Nat} {cs : List Cl} {F0 : Nat → PV} {σ0 : Sig} {p : Nat → PV} {c : Nat → Cl} {s : Nat → Sig} {F : Nat → Nat → PV} {f' : Fr}
    (hcs : ∀ i, i < all.length → cs.getD i .pure = c i) (ht : Trace P all all F0 σ0 p c s F) (hf' : ∀ t, f'.get t = F all.length t) (hd : drawOk all cs = true) (hok : okDsts n all = true)
    {base : Nat} {pb : Pb} {w : World} {a : Act} {f : Fr} (hf0 : ∀ t, f.get t = F0 t) (hs : St base σ0 pb w) (hf : FR σ0 pb w f a.tmps) (hn : a.tmps.size = n) {Q : Exit → Act → World → Prop}
    (hq : ∀ pb' w' (a' : Act), St base (s all.length) pb' w' → Ext σ0 pb w (s all.length) pb' w' → FR (s all.length) pb' w' f' a'.tmps → a'.tmps.size = n → Kp all a a' → Q .normal a' w') :
    (Code.region id all.toArray true).wp P Q a w := by
  unfold drawOk at hd
  simp only [Bool.and_eq_true] at hd
  obtain ⟨hE, hself, hpairs⟩ := hd
  obtain ⟨-, hbm⟩ := bms_spec all [] hE
  have hon := allEdges_on hE
  generalize hbe : bms [] all = bm at hbm hpairs
  simp only [List.length_nil, Nat.zero_add] at hbm hon
  have lt_of {i : Nat} {o : Oper} (h : all[i]? = some o) : i < all.length := (List.getElem?_eq_some_iff.1 h).1
  have hap : ∀ (i j : Nat) (o q : Oper), all[i]? = some o → all[j]? = some q → i < j → _ := fun i j o q ho hq hij => apart_spec ho hq (allPairs_spec hpairs i j hij (lt_of hq))
  have hdist : ∀ (i j : Nat) (o q : Oper) (x : Nat), all[i]? = some o → all[j]? = some q → j ≠ i → o.dst = some x → q.dst ≠ some x := by
    intro i j o q x ho hq hne hx e
    rcases Nat.lt_or_ge i j with h | h
    · exact sameDst_not (hap i j o q ho hq h).1 hx e
    · exact sameDst_not (hap j i q o hq ho (by omega)).1 e hx
  have main := draw_main (B := fun _ => False) (σs := σ0) (pb := pb) (w := w) (a := a) (base := base) (Q := Q) hE hself hdist (fun i j o q ho hq hij _ => by
    rcases (hap i j o q ho hq hij).2 with k | k
    · exact .inl (by rw [hbe]; exact k)
    · obtain ⟨k1, k2, k3, k4⟩ := k
      rw [hcs i (lt_of ho), hcs j (lt_of hq)] at k3 k4
      exact .inr ⟨k1, k2, k3, k4⟩) ht hf' hok hq
  refine wp_region_any hm ?_
  have h0 : ∀ i, (Array.replicate all.length false).getD i false = false := by
    intro i
    simp [Array.getD_eq_getD_getElem?, Array.getElem?_replicate]
    split <;> rfl
  have hx : Ext σ0 pb w σ0 pb { w with drawn := w.drawn + 1 } := ⟨rfl, rfl, rfl, Nat.le_refl _, Keeps.refl _ _, fun b c e f h => ⟨c, f, h, rfl, fun x => x⟩, PlExt.refl _ _⟩
  have hst : St base σ0 pb { w with drawn := w.drawn + 1 } := by
    refine ⟨hs.bs, hs.len, hs.inj, hs.bnd, hs.frn, fun k q o h1 h2 => ?_⟩
    have := hs.pl k q o h1 h2
    cases q with
    | cells cs => cases o with
      | none => exact this
      | some b => obtain ⟨c, e, f, h3, h4, h5⟩ := this; exact ⟨c, e, f, h3, h4, h5.ext hx⟩
    | rows r xs g => cases o with
      | none => exact this
      | some b =>
        obtain ⟨c, e, f, h3, h4, h5, h6⟩ := this
        refine ⟨c, e, f, h3, h4, h5, fun i hi => ?_⟩
        obtain ⟨vs, k1, k2, k3⟩ := h6 i hi
        exact ⟨vs, k1, k2, k3.mono hx.keeps⟩
    | dead => exact this
  refine main all.toArray.size _ pb _ a 0 f (fun _ h => h.elim) (by simp) ?_ (fun j i _ h => ?_) (Nat.zero_le _) (fun i _ _ => ?_) ⟨fun j o x _ h => ?_, fun x _ => hf0 x⟩ (by rw [ht.s0]; exact hst) (by rw [ht.s0]; exact hx) (by rw [ht.s0]; exact hf.ext hx) hn (Kp.refl _ _)
  · have : ∀ m, cnt (Array.replicate all.length false) m ≤ m := by
      intro m
      induction m with
      | zero => exact Nat.le_refl _
      | succ m ih => simp only [cnt]; split <;> omega
    simpa using this all.length
  · rw [show all.toArray.size = all.length by simp, h0] at h; cases h
  · rw [show all.toArray.size = all.length by simp, h0]; simp
  · simp only [show all.toArray.size = all.length by simp, h0] at h; cases h

end Go.Proofs.YthkjjombaoffcaaGreatDoorPM

/- A region whose order is open, in which a block is laid that is looked at behind all else of it: till then it is nobody's. -/
set_option linter.unusedVariables false
set_option linter.unusedSectionVars false
set_option linter.unusedSimpArgs false
noncomputable section
namespace Go.Proofs.YthkjjombaoffcaaGreatDoorPM
open Go Go.RowKit

/-- As Ext, where other blocks are foreign behind than ahead. -/
structure Ext2 (φ1 φ2 : Foreign) (σ : Sig) (pb : Pb) (w : World) (σ' : Sig) (pb' : Pb) (w' : World) : Prop where
  os : w'.os = w.os
  tape : w'.tape = w.tape
  output : w'.output = w.output
  size : w.heap.size ≤ w'.heap.size
  im : ∀ b, @Im φ1 pb w b → @Im φ2 pb' w' b ∧ w'.heap[b]? = w.heap[b]?
  fx : ∀ b, φ1.X b → w'.heap[b]? = w.heap[b]?
  shp : ∀ (b : Nat) (c : Array Value) (e : TypeId) (f : Nat × Nat), w.heap[b]? = some (.cells c e f) → ∃ (c' : Array Value) (f' : Nat × Nat), w'.heap[b]? = some (.cells c' e f') ∧ c'.size = c.size ∧ (f.2 ≤ c.size → f'.2 ≤ c.size)
  pls : PlExt σ pb σ' pb'
theorem Ext.two {φ : Foreign} {σ σ' : Sig} {pb pb' : Pb} {w w' : World} (h : @Ext φ σ pb w σ' pb' w') : Ext2 φ φ σ pb w σ' pb' w' := ⟨h.os, h.tape, h.output, h.size, h.keeps.1, h.keeps.2, h.shp, h.pls⟩
theorem Ext2.one {φ : Foreign} {σ σ' : Sig} {pb pb' : Pb} {w w' : World} (h : Ext2 φ φ σ pb w σ' pb' w') : @Ext φ σ pb w σ' pb' w' := @Ext.mk φ _ _ _ _ _ _ h.os h.tape h.output h.size ⟨h.im, h.fx⟩ h.shp h.pls
theorem Ext2.trans {φ1 φ2 φ3 : Foreign} {σ σ' σ'' : Sig} {pb pb' pb'' : Pb} {w w' w'' : World} (h : Ext2 φ1 φ2 σ pb w σ' pb' w') (k : Ext2 φ2 φ3 σ' pb' w' σ'' pb'' w'') (hf : ∀ b, φ1.X b → φ2.X b) : Ext2 φ1 φ3 σ pb w σ'' pb'' w'' where
  os := k.os.trans h.os
  tape := k.tape.trans h.tape
  output := k.output.trans h.output
  size := Nat.le_trans h.size k.size
  im := fun b hb => ⟨(k.im b (h.im b hb).1).1, (k.im b (h.im b hb).1).2.trans (h.im b hb).2⟩
  fx := fun b hb => (k.fx b (hf b hb)).trans (h.fx b hb)
  shp := fun b c e f hb => by
    obtain ⟨c', f', h1, h2⟩ := h.shp b c e f hb
    obtain ⟨c'', f'', h3, h4⟩ := k.shp b c' e f' h1
    exact ⟨c'', f'', h3, by omega⟩
  pls := h.pls.trans k.pls

section
variable {φ1 φ2 : Foreign}
theorem RowsR.mv {σ σ' : Sig} {pb pb' : Pb} {w w' : World} (k : Ext2 φ1 φ2 σ pb w σ' pb' w') {n : Nat} {α : Type} {E E' : α → List Value → Prop} (hE : ∀ x vs, E x vs → E' x vs) {xs : List α} {a : Option Addr}
    (h : @RowsR φ1 pb w n α E xs a) : @RowsR φ2 pb' w' n α E' xs a := by
  intro i hi
  obtain ⟨b, o, vs, ha, hb, hl, hc, he⟩ := h i hi
  exact ⟨b, o, vs, ha, (k.im b hb).1, hl, fun j hj => by rw [World.cell?_of_block (k.im b hb).2]; exact hc j hj, hE _ _ he⟩
theorem ER.mv {σ σ' : Sig} {pb pb' : Pb} {w w' : World} (k : Ext2 φ1 φ2 σ pb w σ' pb' w') : ∀ {r : Sh} {x : r.den} {vs : List Value}, @ER φ1 pb w r x vs → @ER φ2 pb' w' r x vs := by
  intro r
  induction r with
  | int _ => exact fun h => h
  | bool => exact fun h => h
  | str => exact fun h => h
  | flt => exact fun h => h
  | unit => exact fun h => h
  | rows r ih => rintro x vs ⟨a, c, h, hl, hr⟩; exact ⟨a, c, h, hl, hr.mv k fun _ _ => ih⟩
  | pair a b iha ihb => rintro x vs ⟨u, v, h, hu, hv⟩; exact ⟨u, v, h, iha hu, ihb hv⟩
theorem MapR.mv {σ σ' : Sig} {pb pb' : Pb} {w w' : World} (k : Ext2 φ1 φ2 σ pb w σ' pb' w') {kk : IntKind} {ag : Bool} {r : Sh} {xs : List (Int × r.den)} {b : Nat} (h : @MapR φ1 pb w kk ag r xs b) : @MapR φ2 pb' w' kk ag r xs b := by
  obtain ⟨h1, es, clock, h2, h3, h4⟩ := h
  refine ⟨(k.im b h1).1, es, clock, (k.im b h1).2.trans h2, fun x hx => ?_, h4⟩
  obtain ⟨n, v, vs, a1, a2, a3, a4, a5⟩ := h3 x hx
  exact ⟨n, v, vs, a1, a2, a3, a4.mv k, a5⟩
theorem BlockOf.mv {σ σ' : Sig} {pb pb' : Pb} {w w' : World} (h : Ext2 φ1 φ2 σ pb w σ' pb' w') {b n : Nat} {r : Sh} (hb : BlockOf w b n r) : BlockOf w' b n r := by
  obtain ⟨c, e, f, h1, h2, h5⟩ := hb
  obtain ⟨c', f', h3, h4⟩ := h.shp b c e f h1
  exact ⟨c', e, f', h3, by omega, h5.mv h4.2 h4.1⟩

theorem TyOf.mv {σ σ' : Sig} {pb pb' : Pb} {w w' : World} (h : Ext2 φ1 φ2 σ pb w σ' pb' w') {b : Nat} {e : TypeId} (hb : TyOf w b e) : TyOf w' b e := by
  obtain ⟨c, f, h1⟩ := hb
  obtain ⟨c', f', h3, _⟩ := h.shp b c e f h1
  exact ⟨c', f', h3⟩
theorem OwnR.mv {σ σ' : Sig} {pb pb' : Pb} {w w' : World} (h : Ext2 φ1 φ2 σ pb w σ' pb' w') {k g : Nat} {y : Value} (hc : OwnR σ pb w k g y) : OwnR σ' pb' w' k g y := by
  have hl := h.pls.1
  obtain ⟨hk, hc⟩ := hc
  refine ⟨by omega, fun r xs g' hr => ?_⟩
  obtain ⟨xs', g'', h1, l1, e1⟩ := (h.pls.2 k hk).2 r xs g' hr
  obtain ⟨l2, e2⟩ := hc r xs' g'' h1
  refine ⟨by omega, fun e => ?_⟩
  obtain ⟨a1, a2⟩ := e1 (by omega)
  rcases e2 (by omega) with ⟨b, cap, p1, p2, p3, p4⟩ | ⟨p1, p2, p3⟩
  · exact .inl ⟨b, cap, by rw [a2]; exact p1, by rw [← a1]; exact p2, by omega, p4.mv h⟩
  · refine .inr ⟨by rw [a2]; exact p1, ?_, p3⟩
    rw [p2] at a1
    exact List.eq_nil_of_length_eq_zero a1.symm
theorem CR.mv {σ σ' : Sig} {pb pb' : Pb} {w w' : World} (h : Ext2 φ1 φ2 σ pb w σ' pb' w') {p : PV} {y : Value} (hc : @CR φ1 σ pb w p y) : @CR φ2 σ' pb' w' p y := by
  have hl := h.pls.1
  cases p with
  | v x => exact hc
  | rows full r xs =>
    obtain ⟨a, cap, h1, h2, h3, h4⟩ := hc
    exact ⟨a, cap, h1, h2, h3, h4.mv h fun _ _ => ER.mv h⟩
  | ptr k o =>
    obtain ⟨hk, b, hy, hc⟩ := hc
    refine ⟨by omega, b, hy, fun cs hcs => ?_⟩
    obtain ⟨⟨cs', h1⟩, e⟩ := (h.pls.2 k hk).1 cs hcs
    rw [e]
    exact hc _ h1
  | rp k i off g =>
    obtain ⟨hk, b, o, hy, hc⟩ := hc
    refine ⟨by omega, b, o, hy, fun r xs g' hr => ?_⟩
    obtain ⟨xs', g'', h1, l1, e1⟩ := (h.pls.2 k hk).2 r xs g' hr
    obtain ⟨l2, e2⟩ := hc r xs' g'' h1
    refine ⟨by omega, fun e => ?_⟩
    obtain ⟨a1, a2⟩ := e1 (by omega)
    obtain ⟨p1, p2, p3⟩ := e2 (by omega)
    exact ⟨by rw [a2]; exact p1, by rw [← a1]; exact p2, p3⟩
  | mapc kk ag r xs =>
    obtain ⟨b, h1, h2⟩ := hc
    exact ⟨b, h1, h2.mv h⟩
  | ep r x off =>
    obtain ⟨b, o, vs, h1, h2, h3, h4, h5⟩ := hc
    exact ⟨b, o, vs, h1, (h.im b h2).1, h3, fun j hj => by rw [World.cell?_of_block (h.im b h2).2]; exact h4 j hj, h5.mv h⟩
  | apr k xs n =>
    obtain ⟨h1, a, h2, h3, h4⟩ := hc
    exact ⟨h1, a, h2, h3.mv h fun _ _ => ER.mv h, h4⟩
  | apl k i n g =>
    obtain ⟨hk, b, o, hy, hc⟩ := hc
    refine ⟨by omega, b, o, hy, fun r xs g' hr => ?_⟩
    obtain ⟨xs', g'', h1, l1, e1⟩ := (h.pls.2 k hk).2 r xs g' hr
    obtain ⟨l2, e2⟩ := hc r xs' g'' h1
    refine ⟨by omega, fun e => ?_⟩
    obtain ⟨a1, a2⟩ := e1 (by omega)
    obtain ⟨p1, p2, p3⟩ := e2 (by omega)
    exact ⟨by rw [a2]; exact p1, by rw [← a1]; exact p2, p3⟩
  | own k g =>
    obtain ⟨hk, hc⟩ := hc
    refine ⟨by omega, fun r xs g' hr => ?_⟩
    obtain ⟨xs', g'', h1, l1, e1⟩ := (h.pls.2 k hk).2 r xs g' hr
    obtain ⟨l2, e2⟩ := hc r xs' g'' h1
    refine ⟨by omega, fun e => ?_⟩
    obtain ⟨a1, a2⟩ := e1 (by omega)
    rcases e2 (by omega) with ⟨b, cap, p1, p2, p3, p4⟩ | ⟨p1, p2, p3⟩
    · exact .inl ⟨b, cap, by rw [a2]; exact p1, by rw [← a1]; exact p2, by omega, p4.mv h⟩
    · refine .inr ⟨by rw [a2]; exact p1, ?_, p3⟩
      rw [p2] at a1
      exact List.eq_nil_of_length_eq_zero a1.symm
  | ref k i n g =>
    obtain ⟨hk, hc⟩ := hc
    refine ⟨by omega, fun r xs g' hr => ?_⟩
    obtain ⟨xs', g'', h1, l1, e1⟩ := (h.pls.2 k hk).2 r xs g' hr
    obtain ⟨l2, e2⟩ := hc r xs' g'' h1
    refine ⟨by omega, fun e => ?_⟩
    obtain ⟨a1, a2⟩ := e1 (by omega)
    rcases e2 (by omega) with ⟨b, o, cap, p1, p2, p3, p4, p5⟩ | p
    · exact .inl ⟨b, o, cap, by rw [a2]; exact p1, by omega, p3, p4, p5⟩
    · exact .inr p
  | bp c k e e2 =>
    obtain ⟨hk, b, hy, hc⟩ := hc
    refine ⟨by omega, b, hy, fun cs hcs => ?_⟩
    obtain ⟨⟨cs', h1⟩, e⟩ := (h.pls.2 k hk).1 cs hcs
    obtain ⟨q1, q2⟩ := hc _ h1
    exact ⟨by rw [e]; exact q1, q2.mv h⟩
  | ot k g e =>
    obtain ⟨h1, h2⟩ := hc
    refine ⟨h1.mv h, fun r xs hr b hb => ?_⟩
    obtain ⟨xs', g'', k1, l1, e1⟩ := (h.pls.2 k h1.1).2 r xs g hr
    have l2 := (h1.2 r xs' g'' k1).1
    obtain rfl : g'' = g := by omega
    obtain ⟨a1, a2⟩ := e1 rfl
    exact (h2 r xs' k1 b (by rw [← a2]; exact hb)).mv h
  | sd k g e =>
    obtain ⟨hk, hc⟩ := hc
    refine ⟨by omega, fun r xs g' hr => ?_⟩
    obtain ⟨xs', g'', h1, l1, e1⟩ := (h.pls.2 k hk).2 r xs g' hr
    obtain ⟨l2, e2⟩ := hc r xs' g'' h1
    refine ⟨by omega, fun ee => ?_⟩
    obtain ⟨a1, a2⟩ := e1 (by omega)
    obtain ⟨b, p1, p2, p3⟩ := e2 (by omega)
    exact ⟨b, by rw [a2]; exact p1, p2, p3.mv h⟩
  | agg cs => exact hc
  | arr k l => exact hc
  | tup vs => exact hc
  | fn f c => exact hc
  | dead => trivial

theorem CRs.mv {σ σ' : Sig} {pb pb' : Pb} {w w' : World} (h : Ext2 φ1 φ2 σ pb w σ' pb' w') : ∀ {ps : List PV} {ys : List Value}, @CRs φ1 σ pb w ps ys → @CRs φ2 σ' pb' w' ps ys
  | [], [], _ => trivial
  | p :: ps, y :: ys, hc => ⟨hc.1.mv h, CRs.mv h hc.2⟩
  | [], _ :: _, hc => hc.elim
  | _ :: _, [], hc => hc.elim
theorem AR.mv {σ σ' : Sig} {pb pb' : Pb} {w w' : World} (h : Ext2 φ1 φ2 σ pb w σ' pb' w') {p : PV} {y : Value} (hc : @AR φ1 σ pb w p y) : @AR φ2 σ' pb' w' p y := by
  cases p with
  | agg cs => obtain ⟨ys, e, hc⟩ := hc; exact ⟨ys, e, hc.mv h⟩
  | fn g cs => obtain ⟨ys, e, hc⟩ := hc; exact ⟨ys, e, hc.mv h⟩
  | arr k l => exact hc
  | v x => exact CR.mv (p := .v x) h hc
  | rows a b c => exact CR.mv (p := .rows a b c) h hc
  | ptr a b => exact CR.mv (p := .ptr a b) h hc
  | rp a b c d => exact CR.mv (p := .rp a b c d) h hc
  | ep a b c => exact CR.mv (p := .ep a b c) h hc
  | apr a b c => exact CR.mv (p := .apr a b c) h hc
  | apl a b c d => exact CR.mv (p := .apl a b c d) h hc
  | own a b => exact CR.mv (p := .own a b) h hc
  | ref a b c d => exact CR.mv (p := .ref a b c d) h hc
  | bp a b c d => exact CR.mv (p := .bp a b c d) h hc
  | ot a b c => exact CR.mv (p := .ot a b c) h hc
  | sd a b c => exact CR.mv (p := .sd a b c) h hc
  | mapc a b c d => exact CR.mv (p := .mapc a b c d) h hc
  | tup a => exact hc
  | dead => trivial
theorem ARs.mv {σ σ' : Sig} {pb pb' : Pb} {w w' : World} (h : Ext2 φ1 φ2 σ pb w σ' pb' w') : ∀ {ps : List PV} {ys : List Value}, @ARs φ1 σ pb w ps ys → @ARs φ2 σ' pb' w' ps ys
  | [], [], _ => trivial
  | p :: ps, y :: ys, hc => ⟨hc.1.mv h, ARs.mv h hc.2⟩
  | [], _ :: _, hc => hc.elim
  | _ :: _, [], hc => hc.elim
theorem VR.mv {σ σ' : Sig} {pb pb' : Pb} {w w' : World} (h : Ext2 φ1 φ2 σ pb w σ' pb' w') {p : PV} {y : Value} (hc : @VR φ1 σ pb w p y) : @VR φ2 σ' pb' w' p y := by
  cases p with
  | tup cs => obtain ⟨ys, e, hc⟩ := hc; exact ⟨ys, e, hc.mv h⟩
  | v x => exact AR.mv (p := .v x) h hc
  | rows a b c => exact AR.mv (p := .rows a b c) h hc
  | ptr a b => exact AR.mv (p := .ptr a b) h hc
  | rp a b c d => exact AR.mv (p := .rp a b c d) h hc
  | ep a b c => exact AR.mv (p := .ep a b c) h hc
  | apr a b c => exact AR.mv (p := .apr a b c) h hc
  | apl a b c d => exact AR.mv (p := .apl a b c d) h hc
  | own a b => exact AR.mv (p := .own a b) h hc
  | ref a b c d => exact AR.mv (p := .ref a b c d) h hc
  | bp a b c d => exact AR.mv (p := .bp a b c d) h hc
  | ot a b c => exact AR.mv (p := .ot a b c) h hc
  | sd a b c => exact AR.mv (p := .sd a b c) h hc
  | mapc a b c d => exact AR.mv (p := .mapc a b c d) h hc
  | agg a => exact AR.mv (p := .agg a) h hc
  | arr a b => exact AR.mv (p := .arr a b) h hc
  | fn a b => exact AR.mv (p := .fn a b) h hc
  | dead => trivial
theorem FR.mv {σ σ' : Sig} {pb pb' : Pb} {w w' : World} (h : Ext2 φ1 φ2 σ pb w σ' pb' w') {f : Fr} {tmps : Array Value} (hf : @FR φ1 σ pb w f tmps) : @FR φ2 σ' pb' w' f tmps :=
  fun t => (hf t).mv h

theorem PlaceR.mv {σ σ' : Sig} {pb pb' : Pb} {w w' : World} (h : Ext2 φ1 φ2 σ pb w σ' pb' w') {p : Place} {o : Option Nat} (hb : ∀ b, o = some b → w'.heap[b]? = w.heap[b]?) (hp : @PlaceR φ1 σ pb w p o) : @PlaceR φ2 σ' pb' w' p o := by
  cases o with
  | none => cases p <;> exact hp
  | some b =>
    have hb := hb b rfl
    cases p with
    | cells cs => obtain ⟨c, e, f, h1, h2, h3⟩ := hp; exact ⟨c, e, f, by rw [hb]; exact h1, h2, h3.mv h⟩
    | dead => trivial
    | rows r xs g =>
      obtain ⟨c, e, f, h1, h2, h3, h4⟩ := hp
      refine ⟨c, e, f, by rw [hb]; exact h1, h2, h3, fun i hi => ?_⟩
      obtain ⟨vs, a1, a2, a3⟩ := h4 i hi
      exact ⟨vs, a1, a2, a3.mv h⟩

end

/-! ### the block is laid, and taken in behind -/
@[reducible] def addF (φ : Foreign) (b : Nat) : Foreign := ⟨fun x => φ.X x ∨ x = b⟩
theorem alloc_wp [Foreign] {P : Program} {o : Oper} {t : TypeId} {z : Value} (ho : o.op = .alloc t) (hz : zeroOf P t = some z) {a : Act} {w : World} {next : Act → World → Prop} {Q : Exit → Act → World → Prop}
    (hq : next (a.put o.dst (.pointer (some ⟨w.heap.size, 0, none⟩))) (pushW w (.cells z.cells t))) : o.wp P a w next Q := by
  have hrun : (Instr.alloc t true (.tuple #[])).run P w = .ok (.pointer (some ⟨w.heap.size, 0, none⟩)) (pushW w (.cells z.cells t)) := by
    unfold Instr.alloc
    rw [Sem.run_bind, zero_run hz, Result.andThen_ok]
    rfl
  refine wp_value (w' := pushW w (.cells z.cells t)) (y := .pointer (some ⟨w.heap.size, 0, none⟩)) ?_ hq
  unfold execOp
  rw [ho]
  show (do pure (Next.value (← Instr.alloc t true (.tuple #[]))) : Sem Next).run P w = _
  rw [Sem.run_bind, hrun]
  rfl
theorem push_late {φ : Foreign} {base : Nat} {σ : Sig} {pb : Pb} {w : World} (hs : @St φ base σ pb w) (o : Obj) :
    @St (addF φ w.heap.size) base σ pb (pushW w o) ∧ Ext2 φ (addF φ w.heap.size) σ pb w σ pb (pushW w o) := by
  have hsz : (pushW w o).heap.size = w.heap.size + 1 := by simp [pushW]
  have hlt : ∀ b : Nat, some b ∈ pb → b < w.heap.size := fun b hb => by
    obtain ⟨i, hi⟩ := List.getElem?_of_mem hb
    exact (hs.bnd i b hi).2
  have he : Ext2 φ (addF φ w.heap.size) σ pb w σ pb (pushW w o) := by
    refine ⟨rfl, rfl, rfl, by omega, fun b hb => ⟨⟨by have := hb.1; omega, hb.2.1, fun h => ?_⟩, pushW_old w o b hb.1⟩, fun b hb => pushW_old w o b (hs.frn b hb).1, fun b c e f hb => ⟨c, f, ?_, rfl, fun x => x⟩, PlExt.refl _ _⟩
    · rcases h with h | h
      · exact hb.2.2 h
      · have := hb.1; omega
    · rw [pushW_old w o b (by
        rcases Nat.lt_or_ge b w.heap.size with h | h
        · exact h
        · rw [Array.getElem?_eq_none h] at hb; cases hb)]
      exact hb
  refine ⟨@St.mk (addF φ w.heap.size) base σ pb (pushW w o) (by have := hs.bs; omega) hs.len hs.inj (fun i b hi => by have := hs.bnd i b hi; omega) (fun b hb => ?_) (fun k p q hk hq => ?_), he⟩
  · rcases hb with hb | hb
    · have := hs.frn b hb; exact ⟨by omega, this.2⟩
    · subst hb; exact ⟨by omega, fun h => by have := hlt _ h; omega⟩
  · exact PlaceR.mv he (fun b hb => by subst hb; exact pushW_old w o b (hlt b (List.mem_of_getElem? hq))) (hs.pl k p q hk hq)
theorem adopt {φ : Foreign} {b base : Nat} {σ : Sig} {pb : Pb} {w : World} {cs : List PV} {c : Array Value} {t : TypeId} {f : Nat × Nat} (hs : @St (addF φ b) base σ pb w) (hb : w.heap[b]? = some (.cells c t f))
    (hu : Unfrozen f c.size) (h0 : base ≤ b) (hx : ¬ φ.X b) (hr : ∀ σ' pb' w', @CRs φ σ' pb' w' cs c.toList) :
    @St φ base (σ ++ [.cells cs]) (pb ++ [some b]) w ∧ Ext2 (addF φ b) φ σ pb w (σ ++ [.cells cs]) (pb ++ [some b]) w ∧ @VR φ (σ ++ [.cells cs]) (pb ++ [some b]) w (.ptr σ.length 0) (.pointer (some ⟨b, 0, none⟩)) := by
  obtain ⟨hsbs, hl, hsinj, hsbnd, hsfrn, hspl⟩ := hs
  have hbn : b < w.heap.size ∧ some b ∉ pb := hsfrn b (Or.inr rfl)
  have he : Ext2 (addF φ b) φ σ pb w (σ ++ [.cells cs]) (pb ++ [some b]) w := by
    refine ⟨rfl, rfl, rfl, Nat.le_refl _, fun x hx' => ⟨⟨hx'.1, fun h => ?_, fun h => hx'.2.2 (Or.inl h)⟩, rfl⟩, fun _ _ => rfl, fun b c e f h => ⟨c, f, h, rfl, fun x => x⟩, PlExt.snoc σ pb hl _ _⟩
    rcases List.mem_append.1 h with h | h
    · exact hx'.2.1 h
    · have : x = b := by simpa using h
      exact hx'.2.2 (Or.inr this)
  have hget : ∀ (i x : Nat), (pb ++ [some b])[i]? = some (some x) → pb[i]? = some (some x) ∨ (i = pb.length ∧ x = b) := by
    intro i x h
    by_cases e : i < pb.length
    · rw [List.getElem?_append_left e] at h; exact .inl h
    · rw [List.getElem?_append_right (by omega)] at h
      cases hh : i - pb.length with
      | zero => rw [hh] at h; exact .inr ⟨by omega, by simpa using h.symm⟩
      | succ j => rw [hh] at h; cases h
  refine ⟨@St.mk φ base (σ ++ [.cells cs]) (pb ++ [some b]) w hsbs (by simp [hl]) (fun i j x hi hj => ?_) (fun i x hi => ?_) (fun x hx' => ⟨(hsfrn x (Or.inl hx')).1, fun h => ?_⟩) (fun k p o hk ho => ?_), he, ?_⟩
  · rcases hget i x hi with ki | ⟨e1, e2⟩ <;> rcases hget j x hj with kj | ⟨e3, e4⟩
    · exact hsinj i j x ki kj
    · subst e4; exact absurd (List.mem_of_getElem? ki) hbn.2
    · subst e2; exact absurd (List.mem_of_getElem? kj) hbn.2
    · omega
  · rcases hget i x hi with hi | ⟨e1, e2⟩
    · exact hsbnd i x hi
    · subst e2; exact ⟨h0, hbn.1⟩
  · rcases List.mem_append.1 h with h | h
    · exact (hsfrn x (Or.inl hx')).2 h
    · have : x = b := by simpa using h
      subst this; exact hx hx'
  · by_cases e : k < σ.length
    · rw [List.getElem?_append_left e] at hk
      rw [List.getElem?_append_left (by omega)] at ho
      exact PlaceR.mv he (fun _ _ => rfl) (hspl k p o hk ho)
    · rw [List.getElem?_append_right (by omega)] at hk
      rw [List.getElem?_append_right (by omega)] at ho
      have e2 : k - σ.length = 0 := by
        have := (List.getElem?_eq_some_iff.1 hk).1
        simp at this; omega
      rw [e2] at hk
      rw [show k - pb.length = 0 by omega] at ho
      cases hk
      cases ho
      exact ⟨c, t, f, hb, hu, hr _ _ _⟩
  · refine (show @CR φ (σ ++ [.cells cs]) (pb ++ [some b]) w (.ptr σ.length 0) (.pointer (some ⟨b, 0, none⟩)) from ⟨by simp, b, rfl, fun cs' _ => ?_⟩)
    rw [List.getElem?_append_right (by omega), show σ.length - pb.length = 0 by omega]
    rfl

section
variable {P : Program} {call : CallK} {R : Type} {all : List Oper} {n : Nat}
theorem plainZ_some {t : TypeId} {z : Value} (h : plainZ P t = some z) : zeroOf P t = some z ∧ ∀ σ, oAlloc P t σ = some (newCells σ (zeroCellsP z)) := by
  unfold plainZ at h
  split at h
  · rename_i z' hz
    split at h
    · cases h
    · rename_i fs hu
      split at h
      · rename_i h1 h2
        cases h
        refine ⟨hz, fun σ => ?_⟩
        unfold oAlloc
        rw [hz, hu]
        simp only [h1]
        unfold tagB
        rw [h2]
      · cases h
    · rename_i u h1 h2 h3
      cases h
      refine ⟨hz, fun σ => ?_⟩
      unfold oAlloc
      rw [hz]
      simp only
      split
      · rename_i n e hu; exact (h1 n e (by rw [h3] at hu; exact Option.some.inj hu)).elim
      · rename_i fs hu; exact (h2 fs (by rw [h3] at hu; exact Option.some.inj hu)).elim
      · rfl
      · rename_i hu; rw [h3] at hu; cases hu
    · cases h
  · cases h
theorem behindB_spec {bm : List Nat} {cls : List Cl} {j : Nat} : ∀ {r : Nat}, behindB bm cls j r = true → ∀ i, i < r → cls.getD i .pure = .pure ∨ Nat.testBit (bm.getD j 0) i = true := by
  intro r
  induction r with
  | zero => intro _ i h; omega
  | succ r ih =>
    intro h i hi
    simp only [behindB, Bool.and_eq_true, Bool.or_eq_true] at h
    by_cases e : i = r
    · subst e
      refine h.1.imp (fun h => ?_) id
      cases hc : cls.getD i .pure <;> rw [hc] at h <;> first | rfl | cases h
    · exact ih h.2 i (by omega)
theorem behindAll_spec {bm : List Nat} {cls : List Cl} {z : Nat} : ∀ {r : Nat}, behindAll bm cls z r = true → ∀ j, z < j → j < z + 1 + r → Nat.testBit (bm.getD j 0) z = true ∧ ∀ i, i < z → cls.getD i .pure = .pure ∨ Nat.testBit (bm.getD j 0) i = true := by
  intro r
  induction r with
  | zero => intro _ j h1 h2; omega
  | succ r ih =>
    intro h j h1 h2
    simp only [behindAll, Bool.and_eq_true] at h
    by_cases e : j = z + 1 + r
    · subst e; exact ⟨h.1.1, behindB_spec h.1.2⟩
    · exact ih h.2 j h1 (by omega)
theorem pairsL_spec {bm : List Nat} {cls : List Cl} {z j : Nat} : ∀ {i : Nat}, pairsL all bm cls z j i = true → ∀ k, k < i → pairL all bm cls z k j = true := by
  intro i
  induction i with
  | zero => intro _ k h; omega
  | succ i ih =>
    intro h k hk
    simp only [pairsL, Bool.and_eq_true] at h
    by_cases e : k = i
    · subst e; exact h.1
    · exact ih h.2 k (by omega)
theorem allPairsL_spec {bm : List Nat} {cls : List Cl} {z : Nat} : ∀ {m : Nat}, allPairsL all bm cls z m = true → ∀ i j, i < j → j < m → pairL all bm cls z i j = true := by
  intro m
  induction m with
  | zero => intro _ i j _ h; omega
  | succ m ih =>
    intro h i j h1 h2
    simp only [allPairsL, Bool.and_eq_true] at h
    by_cases e : j = m
    · subst e; exact pairsL_spec h.1 i h1
    · exact ih h.2 i j h1 (by omega)
/-- One step, wherever it comes, and the frame behind. -/
theorem go_step [Foreign] {i : Nat} {o : Oper} (ho : all[i]? = some o) {g : Fr} {σ s : Sig} {p : PV} (hg : GStep P all g σ o p s) {base : Nat} {pb : Pb} {w : World} {a : Act} (hs : St base σ pb w) (hf : FR σ pb w g a.tmps)
    (hsz : ∀ t, o.dst = some t → t < a.tmps.size) {K : Act → World → Prop} {Q : Exit → Act → World → Prop}
    (hk : ∀ pb' w' y, St base s pb' w' → Ext σ pb w s pb' w' → FR s pb' w' (g.put o.dst p) (a.put o.dst y).tmps → K (a.put o.dst y) w') : wpOp P all.toArray Q i K a w := by
  unfold wpOp
  rw [show all.toArray[i]? = some o by simpa using ho]
  exact hg _ base pb w a hs hf _ Q fun pb2 w2 y hs2 he2 hv2 => hk pb2 w2 y hs2 he2 (FR.put (hf.ext he2) hsz hv2)
theorem set_iff {L : Array Bool} (hL : L.size = all.length) {i : Nat} (hlt : i < all.length) (j : Nat) : (L.setIfInBounds i true).getD j false = true ↔ (j = i ∨ L.getD j false = true) := by
  by_cases e : j = i
  · subst e; simp [Array.getD_eq_getD_getElem?, Array.getElem?_setIfInBounds, hL, hlt]
  · have e' : i ≠ j := fun h => e h.symm
    simp [Array.getD_eq_getD_getElem?, Array.getElem?_setIfInBounds, e, e']
theorem set_ne {L : Array Bool} {i j : Nat} (e : j ≠ i) : (L.setIfInBounds i true).getD j false = L.getD j false := by
  have e' : i ≠ j := fun h => e h.symm
  simp [Array.getD_eq_getD_getElem?, Array.getElem?_setIfInBounds, e']
theorem bm_lt [Foreign] (hE : allEdges 0 all = true) : ∀ j, j < all.length → ∀ i, Nat.testBit ((bms [] all).getD j 0) i = true → i < j := by
  have hon := allEdges_on hE
  obtain ⟨-, hbm⟩ := bms_spec all [] hE
  simp only [List.length_nil, Nat.zero_add] at hon hbm
  intro j
  induction j using Nat.strongRecOn with
  | ind j ih =>
    intro hj i hb
    have ho : all[j]? = some all[j] := List.getElem?_eq_getElem hj
    obtain ⟨e, h1, h2, h3⟩ := hbm j _ ho i hb
    have := hon j _ ho e h1 h2
    rcases h3 with h3 | h3
    · omega
    · have := ih e.on this (by omega) i h3
      omega
/-- Every order of a region in which a block is laid that only what stands behind all else looks at. -/
theorem late_sound [φ : Foreign] (hm : P.follows .mixedOrders = true) {id z : Nat}
    {cs : List Cl} {F0 : Nat → PV} {σ0 : Sig} {p : Nat → PV} {c : Nat → Cl} {s : Nat → Sig} {F : Nat → Nat → PV} {f' : Fr} (hcs : ∀ i, i < all.length → cs.getD i .pure = c i) (ht : Trace P all all F0 σ0 p c s F) (hf' : ∀ t, f'.get t = F all.length t)
    (hd : lateB P all z cs = true) (hok : okDsts n all = true)
    {base : Nat} {pb : Pb} {w : World} {a : Act} {f : Fr} (hf0 : ∀ t, f.get t = F0 t) (hs : St base σ0 pb w) (hf : FR σ0 pb w f a.tmps) (hn : a.tmps.size = n) {Q : Exit → Act → World → Prop}
    (hq : ∀ pb' w' (a' : Act), St base (s all.length) pb' w' → Ext σ0 pb w (s all.length) pb' w' → FR (s all.length) pb' w' f' a'.tmps → a'.tmps.size = n → Kp all a a' → Q .normal a' w') :
    (Code.region id all.toArray true).wp P Q a w := by
  unfold lateB at hd
  split at hd
  rotate_left
  · cases hd
  rename_i oz hoz
  simp only [Bool.and_eq_true] at hd
  obtain ⟨hal, hE, hself, hpairs, hbeh⟩ := hd
  split at hal
  rotate_left
  · cases hal
  rename_i t d hop hdst hgd
  obtain ⟨v, hpz⟩ := Option.isSome_iff_exists.1 hal
  obtain ⟨hv, halc⟩ := plainZ_some hpz
  have lt_of {i : Nat} {o : Oper} (h : all[i]? = some o) : i < all.length := (List.getElem?_eq_some_iff.1 h).1
  have hzl := lt_of hoz
  obtain ⟨htp, hts⟩ : p z = .ptr (s z).length 0 ∧ s (z + 1) = s z ++ [.cells (zeroCellsP v)] := by
    obtain ⟨tr, k1, k2, k3⟩ := (ht.step z oz hoz).1.al t hop hgd
    rw [halc] at k1
    cases k1
    exact ⟨k2, k3⟩
  have hT := fun j h1 h2 => behindAll_spec hbeh j h1 (show j < z + 1 + (all.length - (z + 1)) by omega)
  have hblt := bm_lt hE
  obtain ⟨-, hbm⟩ := bms_spec all [] hE
  have hon := allEdges_on hE
  have hdm := fun (B : Nat → Prop) (σs : Sig) (pb : Pb) (w : World) (a : Act) => draw_main (B := B) (σs := σs) (pb := pb) (w := w) (a := a) (base := base) (Q := Q) hE (by exact hself) (f' := f') (ht := ht) (hok := hok) (hf' := hf')
  generalize hbe : bms [] all = bm at hbm hpairs hT hblt hdm
  simp only [List.length_nil, Nat.zero_add] at hbm hon
  have hR : ∀ {i : Nat} {o : Oper}, (all.take z)[i]? = some o ↔ i < z ∧ all[i]? = some o := by
    intro i o
    rw [List.getElem?_take]
    by_cases e : i < z
    · simp [e]
    · simp [e]
  have hapA : ∀ (i j : Nat) (o q : Oper), all[i]? = some o → all[j]? = some q → i < j → j ≠ z → _ := fun i j o q ho hq hij hjz => apart_spec (cls := cs) (bm := bm) ho hq (by
    have := allPairsL_spec hpairs i j hij (lt_of hq)
    unfold pairL at this
    rw [nbeq hjz] at this
    exact this)
  have hapZ : ∀ (i : Nat) (o : Oper), all[i]? = some o → i < z → sameDst o oz = false ∧ dstIn o (readsOf all oz) = false ∧ dstIn oz (readsOf all o) = false := fun i o ho hi => by
    have := allPairsL_spec hpairs i z hi hzl
    unfold pairL at this
    rw [show Nat.beq z z = true from Nat.beq_refl z, ho, hoz] at this
    simpa using this
  have hap : ∀ (i j : Nat) (o q : Oper), all[i]? = some o → all[j]? = some q → i < j → j < z → _ := fun i j o q ho hq hij hjz => hapA i j o q ho hq hij (by omega)
  have hdistA : ∀ (i j : Nat) (o q : Oper) (x : Nat), all[i]? = some o → all[j]? = some q → j ≠ i → o.dst = some x → q.dst ≠ some x := by
    have one : ∀ (i j : Nat) (o q : Oper), all[i]? = some o → all[j]? = some q → i < j → sameDst o q = false := fun i j o q ho hq hij => by
      by_cases e : j = z
      · subst e
        rw [hoz] at hq; cases hq
        exact (hapZ i o ho hij).1
      · exact (hapA i j o q ho hq hij e).1
    intro i j o q x ho hq hne hx e
    rcases Nat.lt_or_ge i j with h | h
    · exact sameDst_not (one i j o q ho hq h) hx e
    · exact sameDst_not (one j i q o hq ho (by omega)) e hx
  have hdist : ∀ (i j : Nat) (o q : Oper) (x : Nat), all[i]? = some o → all[j]? = some q → i < z → j < z → j ≠ i → o.dst = some x → q.dst ≠ some x := fun i j o q x ho hq _ _ hne hx => hdistA i j o q x ho hq hne hx
  have hnoD : ∀ i o, all[i]? = some o → i < z → d ∉ readsOf all o ∧ o.dst ≠ some d := fun i o ho hi => by
    obtain ⟨h1, h2, h3⟩ := hapZ i o ho hi
    exact ⟨dstIn_not h3 hdst, fun e => sameDst_not h1 e hdst⟩
  have hcan : ∀ i, i ≤ z → Canon (all.take z) F0 p (fun j => j < i) (F i) := by
    intro i
    induction i with
    | zero => intro _; rw [ht.f0]; exact ⟨fun j o x _ h => absurd h (by omega), fun x _ => rfl⟩
    | succ i ih =>
      intro hi
      have hlt : i < all.length := by omega
      have ho : all[i]? = some all[i] := List.getElem?_eq_getElem hlt
      have ho2 : (all.take z)[i]? = some all[i] := hR.2 ⟨by omega, ho⟩
      have := (ih (by omega)).put ho2 fun j q x hq hne hx => hdist i j _ q x ho (hR.1 hq).2 (by omega) (hR.1 hq).1 hne hx
      rw [(ht.step i _ ho).2]
      refine ⟨fun j o x h1 h2 h3 => this.1 j o x h1 (by simp only at h2 ⊢; omega) h3, fun x hx => this.2 x fun j o h1 h2 => hx j o h1 (by simp only at h2 ⊢; omega)⟩
  have hphX : ∀ (b : Nat) (x : Nat), φ.X x → (addF φ b).X x := fun b x h => Or.inl h
  -- the block and all writers ahead are listed
  have fin : ∀ (fuel : Nat) (L : Array Bool) (pb1 : Pb) (w1 : World) (a1 : Act) (m : Nat) (g : Fr) (φc : Foreign), L.size = all.length → cnt L all.length ≤ fuel →
      (∀ j i, j < all.length → L.getD j false = true → Nat.testBit (bm.getD j 0) i = true → L.getD i false = true) → m ≤ z →
      (∀ i, i < z → isW (c i) = true → (L.getD i false = true ↔ i < m)) → (∀ i, z < i → i < all.length → L.getD i false = false) →
      (∃ G, Canon (all.take z) F0 p (fun j => L.getD j false = true) G ∧ ∀ t, t ≠ d → g.get t = G t) →
      @St φc base (s m) pb1 w1 → Ext2 φ φc σ0 pb w (s m) pb1 w1 → @FR φc (s m) pb1 w1 g a1.tmps → a1.tmps.size = n → Kp all a a1 →
      ((L.getD z false = false ∧ φc = φ) ∨ (L.getD z false = true ∧ ∃ b, φc = addF φ b ∧ w1.heap[b]? = some (.cells v.cells t (0, 0)) ∧ base ≤ b ∧ ¬ φ.X b ∧ a1.tmps.getD d undef = .pointer (some ⟨b, 0, none⟩))) →
      (L.getD z false = true ∧ ∀ i, i < z → c i = .pure ∨ L.getD i false = true) → wpAny P .any all.toArray Q fuel L a1 w1 := by
    intro fuel L pb1 w1 a1 m g φc hL hcnt hdown hmn hw hlate hG hst hext hfr hsz hdf hph hall
    obtain ⟨hLz, hnp⟩ := hall
    have hWl : ∀ i, i < z → isW (c i) = true → L.getD i false = true := fun i hi hc => (hnp i hi).resolve_left fun e => by rw [e] at hc; cases hc
    have e : s z = s m := seq_same hmn fun k h1 h2 => by
      have ho : all[k]? = some all[k] := List.getElem?_eq_getElem (by omega)
      refine eff_keep (ht.step k _ ho).1.keep (Bool.eq_false_iff.2 fun h => ?_)
      have := (hw k h2 h).1 (hWl k h2 h)
      omega
    rw [← e] at hst hext hfr
    rcases hph with ⟨h, -⟩ | ⟨-, b, rfl, hb1, hb2, hb3, hb4⟩
    · rw [hLz] at h; cases h
    · have hr : ∀ σ' pb' w', @CRs φ σ' pb' w' (zeroCellsP v) v.cells.toList := fun σ' pb' w' => by
        cases v with
        | agg cs => exact CRs.map_v' _ _ _ _
        | _ => exact ⟨rfl, trivial⟩
      obtain ⟨g1, g2, g3⟩ := adopt (φ := φ) hst hb1 (fun o _ h => by omega) hb2 hb3 hr
      obtain ⟨G, hG1, hG2⟩ := hG
      rw [← hts] at g1 g2 g3
      refine hdm (fun i => L.getD i false = true) σ0 pb w a hdistA (fun i j o q ho hq' hij hB => ?_) hq fuel L (pb1 ++ [some b]) w1 a1 (z + 1) ((d, p z) :: g) (fun _ h => h) hL hcnt hdown (by omega) (fun i hi hc => ?_) ⟨fun j o x ho hl hx => ?_, fun x hx => ?_⟩ g1 (hext.trans g2 (hphX b)).one (fun x => ?_) hsz hdf
      · by_cases ej : j = z
        · subst ej
          rw [hoz] at hq'; cases hq'
          obtain ⟨k1, k2, k3⟩ := hapZ i o ho hij
          have hci : c i = .pure := (hnp i hij).resolve_right fun h => hB ⟨h, hLz⟩
          refine .inr ⟨k2, k3, fun h => ?_, fun _ => ?_⟩
          · rw [hci] at h; cases h
          · rw [hci]; cases c j <;> rfl
        · rcases (hapA i j o q ho hq' hij ej).2 with k | k
          · exact .inl k
          · obtain ⟨k1, k2, k3, k4⟩ := k
            rw [hcs i (lt_of ho), hcs j (lt_of hq')] at k3 k4
            exact .inr ⟨k1, k2, k3, k4⟩
      · rcases Nat.lt_trichotomy i z with h | h | h
        · exact ⟨fun _ => by omega, fun _ => hWl i h hc⟩
        · subst h; exact ⟨fun _ => by omega, fun _ => hLz⟩
        · rw [hlate i h hi]
          exact ⟨fun h => (by cases h), fun h2 => (by omega)⟩
      · by_cases ej : j = z
        · subst ej
          rw [hoz] at ho; cases ho
          rw [hdst] at hx; cases hx
          simp [Fr.get, show Nat.beq d d = true from Nat.beq_refl d]
        · have hjz : j < z := by
            rcases Nat.lt_or_ge j z with h | h
            · exact h
            · have hl : L.getD j false = true := hl
              rw [hlate j (by omega) (lt_of ho)] at hl; cases hl
          have hne : d ≠ x := fun e2 => (hnoD j o ho hjz).2 (e2 ▸ hx)
          simp only [Fr.get]
          rw [nbeq hne]
          simp only [cond_false]
          rw [hG2 x (fun h => hne h.symm)]
          exact hG1.1 j o x (hR.2 ⟨hjz, ho⟩) hl hx
      · have hne : d ≠ x := fun e2 => hx z oz hoz hLz (e2 ▸ hdst)
        simp only [Fr.get]
        rw [nbeq hne]
        simp only [cond_false]
        rw [hG2 x (fun h => hne h.symm)]
        exact hG1.2 x fun j o ho hl => hx j o (hR.1 ho).2 hl
      · by_cases ex : d = x
        · subst ex
          rw [hb4]
          simp only [Fr.get, show Nat.beq d d = true from Nat.beq_refl d, cond_true]
          rw [htp]
          exact g3
        · simp only [Fr.get]
          rw [nbeq ex]
          simp only [cond_false]
          exact VR.mv g2 (hfr x)
  have main : ∀ (fuel : Nat) (L : Array Bool) (pb1 : Pb) (w1 : World) (a1 : Act) (m : Nat) (g : Fr) (φc : Foreign), L.size = all.length → cnt L all.length ≤ fuel →
      (∀ j i, j < all.length → L.getD j false = true → Nat.testBit (bm.getD j 0) i = true → L.getD i false = true) → m ≤ z →
      (∀ i, i < z → isW (c i) = true → (L.getD i false = true ↔ i < m)) → (∀ i, z < i → i < all.length → L.getD i false = false) →
      (∃ G, Canon (all.take z) F0 p (fun j => L.getD j false = true) G ∧ ∀ t, t ≠ d → g.get t = G t) →
      @St φc base (s m) pb1 w1 → Ext2 φ φc σ0 pb w (s m) pb1 w1 → @FR φc (s m) pb1 w1 g a1.tmps → a1.tmps.size = n → Kp all a a1 →
      ((L.getD z false = false ∧ φc = φ) ∨ (L.getD z false = true ∧ ∃ b, φc = addF φ b ∧ w1.heap[b]? = some (.cells v.cells t (0, 0)) ∧ base ≤ b ∧ ¬ φ.X b ∧ a1.tmps.getD d undef = .pointer (some ⟨b, 0, none⟩))) →
      wpAny P .any all.toArray Q fuel L a1 w1 := by
    intro fuel
    induction fuel with
    | zero =>
      intro L pb1 w1 a1 m g φc hL hcnt hdown hmn hw hlate hG hst hext hfr hsz hdf hph
      exact fin 0 L pb1 w1 a1 m g φc hL hcnt hdown hmn hw hlate hG hst hext hfr hsz hdf hph ⟨cnt_zero (Nat.le_zero.1 hcnt) z hzl, fun i hi => .inr (cnt_zero (Nat.le_zero.1 hcnt) i (by omega))⟩
    | succ fuel ih =>
      intro L pb1 w1 a1 m g φc hL hcnt hdown hmn hw hlate hG hst hext hfr hsz hdf hph
      by_cases hall : L.getD z false = true ∧ ∀ i, i < z → c i = .pure ∨ L.getD i false = true
      · exact fin (fuel + 1) L pb1 w1 a1 m g φc hL hcnt hdown hmn hw hlate hG hst hext hfr hsz hdf hph hall
      refine ⟨fun hr => ?_, fun i hi => ?_⟩
      · have hl : ∀ i, i < all.length → L.getD i false = true := by
          intro i
          induction i using Nat.strongRecOn with
          | ind i ihi =>
            intro hlt
            cases hLi : L.getD i false with
            | true => rfl
            | false =>
              have ho : all[i]? = some all[i] := List.getElem?_eq_getElem hlt
              have : i ∈ Region.ready .any all.toArray L := (mem_ready hL).2 ⟨hLi, _, ho, fun e he hb => by
                have := hon i _ ho e he hb
                exact ihi e.on this (by omega)⟩
              rw [hr] at this
              cases this
        exact absurd ⟨hl z hzl, fun i hi => .inr (hl i (by omega))⟩ hall
      obtain ⟨hLi, o, ho, hedge⟩ := (mem_ready hL).1 hi
      have hlt := lt_of ho
      have hanc : ∀ j, Nat.testBit (bm.getD i 0) j = true → L.getD j false = true := by
        intro j hb
        obtain ⟨e, h1, h2, h3⟩ := hbm i o ho j hb
        have hle := hedge e h1 h2
        rcases h3 with h3 | h3
        · rw [← h3]; exact hle
        · exact hdown e.on j (by have := hon i o ho e h1 h2; omega) hle h3
      have hdesc : ∀ j, j < all.length → Nat.testBit (bm.getD j 0) i = true → L.getD j false = false := by
        intro j hj hb
        cases hLj : L.getD j false with
        | false => rfl
        | true => rw [hdown j i hj hLj hb] at hLi; cases hLi
      have hiz : i ≤ z := by
        rcases Nat.lt_or_ge z i with h | h
        · obtain ⟨h1, h2⟩ := hT i h (by omega)
          exact absurd ⟨hanc z h1, fun j hj => (h2 j hj).imp (fun h => by rw [← hcs j (by omega)]; exact h) (hanc j)⟩ hall
        · exact h
      have hcnt2 : cnt (L.setIfInBounds i true) all.length ≤ fuel := by
        have := cnt_set (L := L) (by omega) hLi all.length hlt
        omega
      have hdown2 : ∀ j k, j < all.length → (L.setIfInBounds i true).getD j false = true → Nat.testBit (bm.getD j 0) k = true → (L.setIfInBounds i true).getD k false = true := by
        intro j k hj h1 h2
        rw [set_iff hL hlt] at h1 ⊢
        rcases h1 with rfl | h1
        · exact .inr (hanc k h2)
        · exact .inr (hdown j k hj h1 h2)
      have hlate2 : ∀ j, z < j → j < all.length → (L.setIfInBounds i true).getD j false = false := fun j h1 h2 => by
        rw [set_ne (by omega)]; exact hlate j h1 h2
      have hdo : ∀ t, o.dst = some t → t < a1.tmps.size := fun t ht => by rw [hsz]; exact okDsts_lt hok o (List.mem_of_getElem? ho) t ht
      by_cases hiz2 : i = z
      · subst hiz2
        rw [hoz] at ho
        cases ho
        rcases hph with ⟨-, rfl⟩ | ⟨h, -⟩
        · obtain ⟨p1, p2'⟩ := push_late hst (.cells v.cells t)
          unfold wpOp
          rw [show all.toArray[i]? = some oz by simpa using hoz]
          simp only
          rw [if_pos (by simp [Region.wanted, hgd])]
          refine .inl (alloc_wp hop hv ?_)
          refine ih (L.setIfInBounds i true) pb1 _ _ m (g.put oz.dst .dead) (addF φc w1.heap.size) (by simpa using hL) hcnt2 hdown2 hmn (fun j hj hcj => by rw [set_ne (by omega)]; exact hw j hj hcj) hlate2 ?_ p1 (hext.trans p2' fun _ h => h) ?_ (by rw [Act.put_size, hsz]) (hdf.put (List.mem_of_getElem? hoz)) (.inr ⟨(set_iff hL hlt i).2 (.inl rfl), w1.heap.size, rfl, pushW_new _ _, hst.bs, fun h => by have := (hst.frn _ h).1; omega, ?_⟩)
          · obtain ⟨G, hG1, hG2⟩ := hG
            refine ⟨G, ⟨fun j q x h1 h2 h3 => hG1.1 j q x h1 (by have := (hR.1 h1).1; have h2 : (L.setIfInBounds i true).getD j false = true := h2; rw [set_ne (by omega)] at h2; exact h2) h3, fun x hx => hG1.2 x fun j q h1 h2 => hx j q h1 ((set_iff hL hlt j).2 (.inr h2))⟩, fun x hx => ?_⟩
            rw [hdst, put_putF (F := g.get) (fun _ => rfl)]
            simp only [putF]
            rw [if_neg (fun h => hx h.symm)]
            exact hG2 x hx
          · exact @FR.put (addF φc w1.heap.size) _ _ _ _ _ (fun x => VR.mv p2' (hfr x)) _ _ _ hdo trivial
          · rw [hdst]
            have hdl : d < a1.tmps.size := hdo d hdst
            simp [Act.put, Array.getD_eq_getD_getElem?, hdl]
        · rw [hLi] at h; cases h
      have hilt : i < z := by omega
      obtain ⟨G, hG1, hG2⟩ := hG
      obtain ⟨hstep, hF⟩ := ht.step i o ho
      obtain ⟨hnd1, hnd2⟩ := hnoD i o ho hilt
      have hag : ∀ t ∈ readsOf all o, g.get t = F i t := by
        intro t htm
        rw [hG2 t (fun e => hnd1 (e ▸ htm))]
        refine hG1.same (hcan i (by omega)) fun j q hq' hx => ?_
        obtain ⟨hjz, hq⟩ := hR.1 hq'
        rcases Nat.lt_trichotomy j i with h | h | h
        · refine ⟨fun _ => h, fun _ => ?_⟩
          rcases (hap j i q o hq ho h hilt).2 with k | k
          · exact hanc j k
          · exact absurd htm (dstIn_not k.1 hx)
        · subst h
          rw [ho] at hq; cases hq
          exact absurd htm (dstIn_not (selfOk_spec hself _ (List.mem_of_getElem? ho)) hx)
        · refine ⟨fun hl => ?_, fun h' => by omega⟩
          rcases (hap i j o q ho hq h hjz).2 with k | k
          · rw [hdesc j (lt_of hq) k] at hl; cases hl
          · exact absurd htm (dstIn_not k.2.1 hx)
      have hearly : ∀ j, j < i → L.getD j false = false → isW (c j) = true → hits (c j) (c i) = false := by
        intro j hj hl hw2
        have hq : all[j]? = some all[j] := List.getElem?_eq_getElem (by omega)
        rcases (hap j i _ o hq ho hj hilt).2 with k | k
        · rw [hanc j k] at hl; cases hl
        · have := k.2.2.1
          rw [hcs j (by omega), hcs i hlt] at this
          exact this hw2
      have hlate3 : ∀ j, i < j → j < z → L.getD j false = true → isW (c j) = true → hits (c j) (c i) = false := by
        intro j hj hjl hl hw2
        have hq : all[j]? = some all[j] := List.getElem?_eq_getElem (by omega)
        rcases (hap i j o _ ho hq hj hjl).2 with k | k
        · rw [hdesc j (by omega) k] at hl; cases hl
        · have := k.2.2.2
          rw [hcs j (by omega), hcs i hlt] at this
          exact this hw2
      have hwr : isW (c i) = true → ∀ j, j < z → j ≠ i → isW (c j) = true → (L.getD j false = true ↔ j < i) := by
        intro hci j hj hne hcj
        rcases Nat.lt_or_ge j i with h | h
        · refine ⟨fun _ => h, fun _ => ?_⟩
          cases hl : L.getD j false with
          | true => rfl
          | false => have := hearly j h hl hcj; rw [hits_wr hcj hci] at this; cases this
        · refine ⟨fun hl => ?_, fun h' => by omega⟩
          have := hlate3 j (by omega) hj hl hcj
          rw [hits_wr hcj hci] at this
          cases this
      have heff : ∀ k, k < z → eff (c k) (s k) (s (k + 1)) := fun k hk => (ht.step k _ (List.getElem?_eq_getElem (by omega))).1.keep
      have hkeep : ∀ k, k < z → isW (c k) = false → s (k + 1) = s k := fun k hk hck => eff_keep (heff k hk) hck
      have hsm : isW (c i) = true → s m = s i := by
        intro hci
        rcases Nat.le_total m i with h | h
        · refine (seq_same h fun k h1 h2 => hkeep k (by omega) (Bool.eq_false_iff.2 fun hck => ?_)).symm
          have e1 := hw k (by omega) hck
          have e2 := hwr hci k (by omega) (by omega) hck
          have := e1.1 (e2.2 h2)
          omega
        · refine seq_same h fun k h1 h2 => hkeep k (by omega) (Bool.eq_false_iff.2 fun hck => ?_)
          have e1 := hw k (by omega) hck
          by_cases hki : k = i
          · subst hki
            rw [e1.2 h2] at hLi; cases hLi
          · have e2 := hwr hci k (by omega) hki hck
            have := e2.1 (e1.2 h2)
            omega
      have hgo : ∀ {a b : Nat}, a ≤ b → b ≤ z → (∀ k, a ≤ k → k < b → isW (c k) = true → hits (c k) (c i) = false) → agr (c i) (s a) (s b) := by
        intro a b hab
        induction b with
        | zero => intro _ _; have : a = 0 := by omega
                  rw [this]; exact agr_refl _ _
        | succ b ihb =>
          intro hb hk
          by_cases e : a = b + 1
          · rw [e]; exact agr_refl _ _
          · refine agr_trans (ihb (by omega) (by omega) fun k h1 h2 => hk k h1 (by omega)) ?_
            cases hwb : isW (c b) with
            | true => exact eff_agr hwb (hk b (by omega) (by omega) hwb) (heff b (by omega))
            | false => rw [hkeep b (by omega) hwb]; exact agr_refl _ _
      have hrd : isW (c i) = false → agr (c i) (s i) (s m) := by
        intro hci
        rcases Nat.le_total m i with h | h
        · refine agr_symm (hgo h (by omega) fun k h1 h2 hck => hearly k h2 ?_ hck)
          cases hl : L.getD k false with
          | false => rfl
          | true => have := (hw k (by omega) hck).1 hl; omega
        · refine hgo h hmn fun k h1 h2 hck => ?_
          have hl := (hw k (by omega) hck).2 h2
          by_cases hki : k = i
          · subst hki; rw [hck] at hci; cases hci
          · exact hlate3 k (by omega) (by omega) hl hck
      have hfx : ∀ b, φ.X b → φc.X b := by
        rcases hph with ⟨-, rfl⟩ | ⟨-, b, rfl, -⟩
        · exact fun _ h => h
        · exact fun _ h => Or.inl h
      have next : ∀ m', m' ≤ z → (∀ j, j < z → isW (c j) = true → ((L.setIfInBounds i true).getD j false = true ↔ j < m')) → GStep P all g (s m) o (p i) (s m') →
          wpOp P all.toArray Q i (wpAny P .any all.toArray Q fuel (L.setIfInBounds i true)) a1 w1 := by
        intro m' hm' hw' hg
        refine @go_step P all φc i o ho g (s m) (s m') (p i) hg base pb1 w1 a1 hst hfr hdo _ Q fun pb2 w2 y hs2 he2 hf2 => ?_
        refine ih (L.setIfInBounds i true) pb2 w2 (a1.put o.dst y) m' (g.put o.dst (p i)) φc (by simpa using hL) hcnt2 hdown2 hm' hw' hlate2 ?_ hs2 (hext.trans (Ext.two he2) hfx) hf2 (by rw [Act.put_size, hsz]) (hdf.put (List.mem_of_getElem? ho)) ?_
        · have := hG1.put (hR.2 ⟨hilt, ho⟩) fun j q x hq hne hx => hdist i j o q x ho (hR.1 hq).2 hilt (hR.1 hq).1 hne hx
          refine ⟨putF G o.dst (p i), ⟨fun j q x h1 h2 h3 => this.1 j q x h1 ((set_iff hL hlt j).1 h2) h3, fun x hx => this.2 x fun j q h1 h2 => hx j q h1 ((set_iff hL hlt j).2 h2)⟩, fun x hx => ?_⟩
          rw [put_putF (F := g.get) (fun _ => rfl)]
          unfold putF
          cases o.dst with
          | none => exact hG2 x hx
          | some y => simp only; rw [hG2 x hx]
        · rcases hph with ⟨h1, h2⟩ | ⟨h1, b, h2, h3, h4, h5, h6⟩
          · exact .inl ⟨by rw [set_ne (by omega)]; exact h1, h2⟩
          · refine .inr ⟨by rw [set_ne (by omega)]; exact h1, b, h2, ?_, h4, h5, by rw [put_tmps hnd2]; exact h6⟩
            subst h2
            rw [(Ext.two he2).fx b (Or.inr rfl)]
            exact h3
      cases hc2 : isW (c i) with
      | true =>
        refine next (i + 1) (by omega) (fun j hj hcj => ?_) ?_
        · by_cases e : j = i
          · subst e
            rw [set_iff hL hlt]
            omega
          · rw [set_ne e, hwr hc2 j hj e hcj]
            omega
        · rw [hsm hc2]
          exact hstep.run g hag
      | false =>
        refine next m hmn (fun j hj hcj => ?_) (hstep.free hc2 g hag (s m) (hrd hc2))
        have e : j ≠ i := fun e => by rw [e, hc2] at hcj; cases hcj
        rw [set_ne e]
        exact hw j hj hcj
  refine wp_region_any hm ?_
  have h0 : ∀ i, (Array.replicate all.length false).getD i false = false := by
    intro i
    simp [Array.getD_eq_getD_getElem?, Array.getElem?_replicate]
    split <;> rfl
  have hx : Ext σ0 pb w σ0 pb { w with drawn := w.drawn + 1 } := ⟨rfl, rfl, rfl, Nat.le_refl _, Keeps.refl _ _, fun b c e f h => ⟨c, f, h, rfl, fun x => x⟩, PlExt.refl _ _⟩
  have hst : St base σ0 pb { w with drawn := w.drawn + 1 } := ⟨hs.bs, hs.len, hs.inj, hs.bnd, hs.frn, fun k q o h1 h2 => PlaceR.ext hx (fun b _ => rfl) (hs.pl k q o h1 h2)⟩
  refine main all.toArray.size _ pb _ a 0 f φ (by simp) ?_ (fun j i _ h => ?_) (Nat.zero_le _) (fun i _ _ => ?_) (fun i _ _ => ?_) ⟨F0, ⟨fun j o x _ h => ?_, fun x _ => rfl⟩, fun x _ => hf0 x⟩ (by rw [ht.s0]; exact hst) (by rw [ht.s0]; exact hx.two) (by rw [ht.s0]; exact hf.ext hx) hn (Kp.refl _ _) (.inl ⟨?_, rfl⟩)
  · have : ∀ m, cnt (Array.replicate all.length false) m ≤ m := by
      intro m
      induction m with
      | zero => exact Nat.le_refl _
      | succ m ih => simp only [cnt]; split <;> omega
    simpa using this all.length
  · rw [show all.toArray.size = all.length by simp, h0] at h; cases h
  · rw [show all.toArray.size = all.length by simp, h0]; simp
  · rw [show all.toArray.size = all.length by simp, h0]
  · simp only [show all.toArray.size = all.length by simp, h0] at h; cases h
  · rw [show all.toArray.size = all.length by simp, h0]
end

end Go.Proofs.YthkjjombaoffcaaGreatDoorPM
