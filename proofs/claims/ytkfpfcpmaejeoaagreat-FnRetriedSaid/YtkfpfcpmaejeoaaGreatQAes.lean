/- AES by places: rounds forth and back, each undoing the other; the keys of rounds. -/
import Derived.Test.YtkfpfcpmaejeoaaGreatQList
set_option linter.unusedVariables false
set_option linter.unusedSimpArgs false
namespace Go.Proofs.YtkfpfcpmaejeoaaGreat.Q
open Go

/-! ### bytes that other bytes become (QSub has the same under the law's name) -/
def rol8 (a n : Nat) : Nat := ((a <<< n) ||| (a >>> (8 - n))) % 256
theorem rol8_lt (a n : Nat) : rol8 a n < 256 := Nat.mod_lt _ (by decide)

/-! ### the steps of a round -/
def ak (w : Nat → Nat) (r : Nat) (f : Nat → Nat) (i : Nat) : Nat := f i ^^^ w (16 * r + i)
def shx (k i : Nat) : Nat := 4 * ((i / 4 + k * (i % 4)) % 4) + i % 4
def sh (k : Nat) (f : Nat → Nat) (i : Nat) : Nat := f (shx k i)
def mq (c f : Nat → Nat) (q r : Nat) : Nat := gf (c 0) (f (q + r % 4)) ^^^ (gf (c 1) (f (q + (r + 1) % 4)) ^^^ (gf (c 2) (f (q + (r + 2) % 4)) ^^^ gf (c 3) (f (q + (r + 3) % 4))))
def mx (c f : Nat → Nat) (i : Nat) : Nat := mq c f (4 * (i / 4)) (i % 4)
def fw (k : Nat) : Nat := [2, 3, 1, 1].getD k 0
def bw (k : Nat) : Nat := [14, 11, 13, 9].getD k 0
theorem shx_lt (k i : Nat) : shx k i < 16 := by unfold shx; omega
theorem fw_lt (k : Nat) : fw k < 256 := by
  unfold fw
  match k with
  | 0 => decide
  | 1 => decide
  | 2 => decide
  | 3 => decide
  | k + 4 => simp
theorem bw_lt (k : Nat) : bw k < 256 := by
  unfold bw
  match k with
  | 0 => decide
  | 1 => decide
  | 2 => decide
  | 3 => decide
  | k + 4 => simp
def By (f : Nat → Nat) : Prop := ∀ i, f i < 256
theorem By.ak {w f : Nat → Nat} (hw : By w) (hf : By f) (r : Nat) : By (ak w r f) := fun i => xor_lt (hf i) (hw _)
theorem By.sh {f : Nat → Nat} (hf : By f) (k : Nat) : By (sh k f) := fun i => hf _
theorem By.mx {c f : Nat → Nat} (hc : By c) : By (mx c f) := fun i => xor_lt (gf_lt (hc _)) (xor_lt (gf_lt (hc _)) (xor_lt (gf_lt (hc _)) (gf_lt (hc _))))

theorem ak_ak (w : Nat → Nat) (r : Nat) (f : Nat → Nat) : ak w r (ak w r f) = f := by
  funext i
  unfold ak
  rw [Nat.xor_assoc, Nat.xor_self, Nat.xor_zero]
theorem sh_tab : ∀ i : Fin 16, shx 1 (shx 3 i) = i ∧ shx 3 (shx 1 i) = i := by decide
theorem sh31 {f : Nat → Nat} {i : Nat} (h : i < 16) : sh 3 (sh 1 f) i = f i := by unfold sh; rw [(sh_tab ⟨i, h⟩).1]
theorem sh13 {f : Nat → Nat} {i : Nat} (h : i < 16) : sh 1 (sh 3 f) i = f i := by unfold sh; rw [(sh_tab ⟨i, h⟩).2]
theorem mix_tab : ∀ x : Fin 256,
    (gf 14 (gf 2 x) ^^^ (gf 11 (gf 1 x) ^^^ (gf 13 (gf 1 x) ^^^ gf 9 (gf 3 x))) = x ∧ gf 14 (gf 3 x) ^^^ (gf 11 (gf 2 x) ^^^ (gf 13 (gf 1 x) ^^^ gf 9 (gf 1 x))) = 0 ∧
      gf 14 (gf 1 x) ^^^ (gf 11 (gf 3 x) ^^^ (gf 13 (gf 2 x) ^^^ gf 9 (gf 1 x))) = 0 ∧ gf 14 (gf 1 x) ^^^ (gf 11 (gf 1 x) ^^^ (gf 13 (gf 3 x) ^^^ gf 9 (gf 2 x))) = 0) ∧
    (gf 2 (gf 14 x) ^^^ (gf 3 (gf 9 x) ^^^ (gf 1 (gf 13 x) ^^^ gf 1 (gf 11 x))) = x ∧ gf 2 (gf 11 x) ^^^ (gf 3 (gf 14 x) ^^^ (gf 1 (gf 9 x) ^^^ gf 1 (gf 13 x))) = 0 ∧
      gf 2 (gf 13 x) ^^^ (gf 3 (gf 11 x) ^^^ (gf 1 (gf 14 x) ^^^ gf 1 (gf 9 x))) = 0 ∧ gf 2 (gf 9 x) ^^^ (gf 3 (gf 13 x) ^^^ (gf 1 (gf 11 x) ^^^ gf 1 (gf 14 x))) = 0) := by decide +kernel
/-- Sixteen terms, by columns in place of rows. -/
theorem xor16 (a0 a1 a2 a3 b0 b1 b2 b3 c0 c1 c2 c3 d0 d1 d2 d3 : Nat) :
    (a0 ^^^ (a1 ^^^ (a2 ^^^ a3))) ^^^ ((b0 ^^^ (b1 ^^^ (b2 ^^^ b3))) ^^^ ((c0 ^^^ (c1 ^^^ (c2 ^^^ c3))) ^^^ (d0 ^^^ (d1 ^^^ (d2 ^^^ d3))))) =
    (a0 ^^^ (b3 ^^^ (c2 ^^^ d1))) ^^^ ((a1 ^^^ (b0 ^^^ (c3 ^^^ d2))) ^^^ ((a2 ^^^ (b1 ^^^ (c0 ^^^ d3))) ^^^ (a3 ^^^ (b2 ^^^ (c1 ^^^ d0))))) := by
  simp only [Nat.xor_assoc]
  ac_rfl
theorem mcol_b {x0 x1 x2 x3 : Nat} (h0 : x0 < 256) (h1 : x1 < 256) (h2 : x2 < 256) (h3 : x3 < 256) :
    gf 14 (gf 2 x0 ^^^ (gf 3 x1 ^^^ (gf 1 x2 ^^^ gf 1 x3))) ^^^ (gf 11 (gf 2 x1 ^^^ (gf 3 x2 ^^^ (gf 1 x3 ^^^ gf 1 x0))) ^^^ (gf 13 (gf 2 x2 ^^^ (gf 3 x3 ^^^ (gf 1 x0 ^^^ gf 1 x1))) ^^^ gf 9 (gf 2 x3 ^^^ (gf 3 x0 ^^^ (gf 1 x1 ^^^ gf 1 x2))))) = x0 := by
  simp only [gf_right]
  rw [xor16, (mix_tab ⟨x0, h0⟩).1.1, (mix_tab ⟨x1, h1⟩).1.2.1, (mix_tab ⟨x2, h2⟩).1.2.2.1, (mix_tab ⟨x3, h3⟩).1.2.2.2]
  simp
theorem mcol_f {x0 x1 x2 x3 : Nat} (h0 : x0 < 256) (h1 : x1 < 256) (h2 : x2 < 256) (h3 : x3 < 256) :
    gf 2 (gf 14 x0 ^^^ (gf 11 x1 ^^^ (gf 13 x2 ^^^ gf 9 x3))) ^^^ (gf 3 (gf 14 x1 ^^^ (gf 11 x2 ^^^ (gf 13 x3 ^^^ gf 9 x0))) ^^^ (gf 1 (gf 14 x2 ^^^ (gf 11 x3 ^^^ (gf 13 x0 ^^^ gf 9 x1))) ^^^ gf 1 (gf 14 x3 ^^^ (gf 11 x0 ^^^ (gf 13 x1 ^^^ gf 9 x2))))) = x0 := by
  simp only [gf_right]
  rw [xor16, (mix_tab ⟨x0, h0⟩).2.1, (mix_tab ⟨x1, h1⟩).2.2.1, (mix_tab ⟨x2, h2⟩).2.2.2.1, (mix_tab ⟨x3, h3⟩).2.2.2.2]
  simp
theorem mx_at (c f : Nat → Nat) (q r : Nat) (hr : r < 4) : mx c f (4 * q + r) = mq c f (4 * q) r := by
  unfold mx
  rw [show (4 * q + r) / 4 = q by omega, show (4 * q + r) % 4 = r by omega]
theorem mx_bw {f : Nat → Nat} (hf : By f) : mx bw (mx fw f) = f := by
  funext i
  obtain ⟨q, r, hr, rfl⟩ : ∃ q r, r < 4 ∧ i = 4 * q + r := ⟨i / 4, i % 4, Nat.mod_lt _ (by decide), by omega⟩
  rw [mx_at _ _ _ _ hr]
  unfold mq
  rw [mx_at _ _ _ _ (Nat.mod_lt _ (by decide)), mx_at _ _ _ _ (Nat.mod_lt _ (by decide)), mx_at _ _ _ _ (Nat.mod_lt _ (by decide)), mx_at _ _ _ _ (Nat.mod_lt _ (by decide))]
  unfold mq
  rcases (show r = 0 ∨ r = 1 ∨ r = 2 ∨ r = 3 by omega) with rfl | rfl | rfl | rfl <;> exact mcol_b (hf _) (hf _) (hf _) (hf _)
theorem mx_fw {f : Nat → Nat} (hf : By f) : mx fw (mx bw f) = f := by
  funext i
  obtain ⟨q, r, hr, rfl⟩ : ∃ q r, r < 4 ∧ i = 4 * q + r := ⟨i / 4, i % 4, Nat.mod_lt _ (by decide), by omega⟩
  rw [mx_at _ _ _ _ hr]
  unfold mq
  rw [mx_at _ _ _ _ (Nat.mod_lt _ (by decide)), mx_at _ _ _ _ (Nat.mod_lt _ (by decide)), mx_at _ _ _ _ (Nat.mod_lt _ (by decide)), mx_at _ _ _ _ (Nat.mod_lt _ (by decide))]
  unfold mq
  rcases (show r = 0 ∨ r = 1 ∨ r = 2 ∨ r = 3 by omega) with rfl | rfl | rfl | rfl <;> exact mcol_f (hf _) (hf _) (hf _) (hf _)

/-! ### rounds; t and u tell what bytes become and what becomes them -/
section
variable (t u : Nat → Nat) (w : Nat → Nat)
def rnd (r : Nat) (f : Nat → Nat) : Nat → Nat := ak w r (if r < 10 then mx fw (sh 1 fun i => t (f i)) else sh 1 fun i => t (f i))
def dnd (r : Nat) (f : Nat → Nat) (i : Nat) : Nat := u (sh 3 (if r < 10 then mx bw (ak w r f) else ak w r f) i)
def encN : Nat → (Nat → Nat) → Nat → Nat
  | 0, f => ak w 0 f
  | n + 1, f => rnd t w (n + 1) (encN n f)
def decN : Nat → (Nat → Nat) → Nat → Nat
  | 0, f => ak w 0 f
  | n + 1, f => decN n (dnd u w (n + 1) f)
end
def E16 (f g : Nat → Nat) : Prop := ∀ i, i < 16 → f i = g i
section
variable {t u w : Nat → Nat}
theorem E16.ak {f g : Nat → Nat} (h : E16 f g) (r : Nat) : E16 (ak w r f) (ak w r g) := fun i hi => by unfold Q.ak; rw [h i hi]
theorem E16.sh {f g : Nat → Nat} (h : E16 f g) (k : Nat) : E16 (sh k f) (sh k g) := fun i hi => h _ (shx_lt k i)
theorem E16.mx {c f g : Nat → Nat} (h : E16 f g) : E16 (mx c f) (mx c g) := fun i hi => by
  unfold Q.mx mq
  rw [h _ (by omega), h _ (by omega), h _ (by omega), h _ (by omega)]
theorem E16.rnd {f g : Nat → Nat} (h : E16 f g) (r : Nat) : E16 (rnd t w r f) (rnd t w r g) := by
  have h1 : E16 (fun i => t (f i)) (fun i => t (g i)) := fun i hi => congrArg t (h i hi)
  unfold Q.rnd
  split
  · exact (h1.sh 1).mx.ak r
  · exact (h1.sh 1).ak r
theorem E16.dnd {f g : Nat → Nat} (h : E16 f g) (r : Nat) : E16 (dnd u w r f) (dnd u w r g) := by
  intro i hi
  unfold Q.dnd
  split
  · exact congrArg u (((h.ak r).mx.sh 3) i hi)
  · exact congrArg u (((h.ak r).sh 3) i hi)
theorem E16.decN (n : Nat) : ∀ {f g : Nat → Nat}, E16 f g → E16 (decN u w n f) (decN u w n g) := by
  induction n with
  | zero => exact fun h => h.ak 0
  | succ n ih => exact fun h => ih (h.dnd (n + 1))
theorem E16.encN (n : Nat) {f g : Nat → Nat} (h : E16 f g) : E16 (encN t w n f) (encN t w n g) := by
  induction n with
  | zero => exact h.ak 0
  | succ n ih => exact ih.rnd (n + 1)
theorem By.rnd (hw : By w) (ht : ∀ x, x < 256 → t x < 256) {f : Nat → Nat} (hf : By f) (r : Nat) : By (rnd t w r f) := by
  unfold Q.rnd
  split
  · exact By.ak hw (By.mx fw_lt) r
  · exact By.ak hw (By.sh (fun i => ht _ (hf i)) 1) r
theorem By.encN (hw : By w) (ht : ∀ x, x < 256 → t x < 256) {f : Nat → Nat} (hf : By f) (n : Nat) : By (encN t w n f) := by
  induction n with
  | zero => exact By.ak hw hf 0
  | succ n ih => exact By.rnd hw ht ih (n + 1)
theorem By.dnd (hu : ∀ x, u x < 256) (f : Nat → Nat) (r : Nat) : By (dnd u w r f) := fun i => hu _
theorem By.decN (hw : By w) (hu : ∀ x, u x < 256) (n : Nat) : ∀ {f : Nat → Nat}, By f → By (decN u w n f) := by
  induction n with
  | zero => exact fun hf => By.ak hw hf 0
  | succ n ih => exact fun hf => ih (By.dnd hu _ _)
theorem dnd_rnd (hut : ∀ x, x < 256 → u (t x) = x) (ht : ∀ x, x < 256 → t x < 256) {f : Nat → Nat} (hf : By f) (r : Nat) : E16 (dnd u w r (rnd t w r f)) f := by
  intro i hi
  unfold dnd rnd
  have hb : By (fun i => t (f i)) := fun i => ht _ (hf i)
  split
  · rw [ak_ak, mx_bw (hb.sh 1), sh31 hi]; exact hut _ (hf i)
  · rw [ak_ak, sh31 hi]; exact hut _ (hf i)
theorem rnd_dnd (htu : ∀ x, x < 256 → t (u x) = x) (hw : By w) {f : Nat → Nat} (hf : By f) (r : Nat) : E16 (rnd t w r (dnd u w r f)) f := by
  intro i hi
  unfold dnd rnd
  have hb : By (ak w r f) := By.ak hw hf r
  split
  · have h1 : E16 (sh 1 fun i => t (u (sh 3 (mx bw (ak w r f)) i))) (mx bw (ak w r f)) := by
      intro j hj
      show t (u (sh 3 (mx bw (ak w r f)) (shx 1 j))) = _
      rw [htu _ ((By.mx bw_lt).sh 3 _)]
      exact sh13 (f := mx bw (ak w r f)) hj
    have h2 := (h1.mx (c := fw)).ak (w := w) r i hi
    rw [mx_fw hb, ak_ak] at h2
    exact h2
  · have h1 : E16 (sh 1 fun i => t (u (sh 3 (ak w r f) i))) (ak w r f) := by
      intro j hj
      show t (u (sh 3 (ak w r f) (shx 1 j))) = _
      rw [htu _ (hb.sh 3 _)]
      exact sh13 (f := ak w r f) hj
    have h2 := h1.ak (w := w) r i hi
    rw [ak_ak] at h2
    exact h2
theorem dec_enc (hut : ∀ x, x < 256 → u (t x) = x) (ht : ∀ x, x < 256 → t x < 256) (hw : By w) {f : Nat → Nat} (hf : By f) (n : Nat) : E16 (decN u w n (encN t w n f)) f := by
  induction n with
  | zero => intro i _; show ak w 0 (ak w 0 f) i = f i; rw [ak_ak]
  | succ n ih => exact fun i hi => (E16.decN n (dnd_rnd hut ht (By.encN hw ht hf n) (n + 1)) i hi).trans (ih i hi)
theorem enc_dec (htu : ∀ x, x < 256 → t (u x) = x) (hu : ∀ x, u x < 256) (hw : By w) (n : Nat) : ∀ {f : Nat → Nat}, By f → E16 (encN t w n (decN u w n f)) f := by
  induction n with
  | zero => intro f _ i _; show ak w 0 (ak w 0 f) i = f i; rw [ak_ak]
  | succ n ih =>
    intro f hf i hi
    have h1 := (ih (By.dnd (w := w) hu f (n + 1))).rnd (t := t) (w := w) (n + 1)
    exact (h1 i hi).trans (rnd_dnd htu hw hf (n + 1) i hi)
end

/-! ### the keys of rounds -/
section
variable (t : Nat → Nat)
/-- What a word is xored with. -/
def kt (d o : Nat) (w : Nat → Nat) (k : Nat) : Nat := if d % 4 = 0 then (if k = 0 then t (w (4 * d - 3)) ^^^ o else t (w (4 * d - 4 + (k + 1) % 4))) else w (4 * d - 4 + k)
def ko (d o : Nat) : Nat := if d % 4 = 0 then gf o 2 else o
/-- So many words after word d. -/
def kw (d o : Nat) (w : Nat → Nat) (j i : Nat) : Nat := if i < 4 * d then w i else if i < 4 * d + j then w (i - 16) ^^^ kt t d o w (i - 4 * d) else 0
def kst : Nat → (Nat × (Nat → Nat)) → Nat × (Nat → Nat)
  | 0, s => s
  | n + 1, s => let q := kst n s; (ko (4 + n) q.1, kw t (4 + n) q.1 q.2 4)
end
theorem By.kt {t : Nat → Nat} (ht : ∀ x, x < 256 → t x < 256) {d o : Nat} (ho : o < 256) {w : Nat → Nat} (hw : By w) (k : Nat) : kt t d o w k < 256 := by
  unfold Q.kt
  split
  · split
    · exact xor_lt (ht _ (hw _)) ho
    · exact ht _ (hw _)
  · exact hw _
theorem By.kw {t : Nat → Nat} (ht : ∀ x, x < 256 → t x < 256) {d o : Nat} (ho : o < 256) {w : Nat → Nat} (hw : By w) (j : Nat) : By (kw t d o w j) := by
  intro i
  unfold Q.kw
  split
  · exact hw i
  · split
    · exact xor_lt (hw _) (By.kt ht ho hw _)
    · decide
theorem ko_lt {d o : Nat} (ho : o < 256) : ko d o < 256 := by unfold ko; split; exact gf_lt ho; exact ho
theorem kst_by {t : Nat → Nat} (ht : ∀ x, x < 256 → t x < 256) {o : Nat} {w : Nat → Nat} (ho : o < 256) (hw : By w) (n : Nat) : (kst t n (o, w)).1 < 256 ∧ By (kst t n (o, w)).2 := by
  induction n with
  | zero => exact ⟨ho, hw⟩
  | succ n ih => exact ⟨ko_lt ih.1, By.kw ht ih.1 ih.2 4⟩
theorem kst_low {t : Nat → Nat} {o : Nat} {w : Nat → Nat} (n i : Nat) (hi : i < 16) : (kst t n (o, w)).2 i = w i := by
  induction n with
  | zero => rfl
  | succ n ih => show kw t (4 + n) _ _ 4 i = _; unfold kw; rw [if_pos (by omega), ih]
end Go.Proofs.YtkfpfcpmaejeoaaGreat.Q
