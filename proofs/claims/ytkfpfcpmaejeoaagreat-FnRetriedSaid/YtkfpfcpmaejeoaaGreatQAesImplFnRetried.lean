/- The program's AES, by places. -/
import Derived.Test.YtkfpfcpmaejeoaaGreatQAes
import Derived.Test.YtkfpfcpmaejeoaaGreatQSubFnRetried
set_option linter.unusedVariables false
set_option linter.unusedSimpArgs false
namespace Go.Proofs.YtkfpfcpmaejeoaaGreat.CFnRetried
open Go Go.Proofs Go.Proofs.YtkfpfcpmaejeoaaGreatPM Go.Proofs.YtkfpfcpmaejeoaaGreat.Q Go.Proofs.YtkfpfcpmaejeoaaGreat.GFnRetried

theorem tn {x : Int} {n : Nat} (h : x = (n : Int)) : Int.toNat x = n := by rw [h]; exact Int.toNat_natCast n

theorem addKey_ok {f w : Nat → Nat} (hf : By f) (hw : By w) {r : Nat} (hr : r ≤ 10) (p2 : List Int) :
    EvP (fun N => impl_cipher_addKey N (r : Int) (L 16 f) p2 (L 176 w)) (· = ((), (((), ((), ())), (L 16 (ak w r f), (p2, (L 176 w, ())))))) := by
  refine EvP.of (fun k => impl_cipher_addKey.eq k _ _ _ _) (EvP.to (a := ((), (((), ((), ())), (L 16 (ak w r f), (p2, (L 176 w, ())))))) ?_ (EvP.some rfl))
  rw [L_len]
  refine EvP.count (f := fun N i (p : List Int) => impl_cipher_addKey.l0 N (r : Int) ((16 : Nat) : Int) i p p2 (L 176 w)) (n := 16) (inv := fun i p => p = L 16 (fun j => if j < i then ak w r f j else f j)) ?_ ?_ 0 (L 16 f) (by decide) (L_eq fun j _ => by rw [if_neg (by omega)])
  · rintro i p hi rfl next
    refine EvP.step (fun k => impl_cipher_addKey.l0.eq k _ _ _ _ _ _) ?_
    have e1 : IntKind.i64.wrap (16 * (r : Int)) = ((16 * r : Nat) : Int) := by rw [i64w (by omega) (by omega)]; omega
    have e2 : IntKind.i64.wrap (((16 * r : Nat) : Int) + (i : Int)) = ((16 * r + i : Nat) : Int) := by rw [i64w (by omega) (by omega)]; omega
    have e3 : IntKind.i64.wrap ((i : Int) + 1) = ((i + 1 : Nat) : Int) := by rw [i64w (by omega) (by omega)]; omega
    rw [e1, e2, e3]
    simp only [Int.toNat_natCast, L_len]
    rw [L_at hi, L_at (by omega : 16 * r + i < 176), if_neg (by omega), xor_u8 (hf i) (hw _), L_set]
    refine EvP.pos (by omega) (EvP.chk2 (by omega) (by omega) (EvP.chk2 (by omega) (by omega) (EvP.chk2 (by omega) (by omega) (next _ (L_eq fun j hj => ?_)))))
    by_cases e : j = i
    · subst e; rw [if_pos rfl, if_pos (by omega)]; rfl
    · rw [if_neg e]
      by_cases h : j < i
      · rw [if_pos h, if_pos (by omega)]
      · rw [if_neg h, if_neg (by omega)]
  · rintro p rfl
    refine EvP.step (fun k => impl_cipher_addKey.l0.eq k _ _ _ _ _ _) (EvP.neg (by omega) (EvP.some ?_))
    rw [L_eq (g := ak w r f) fun j hj => if_pos hj]

theorem shift_ok {f : Nat → Nat} {k : Nat} (hk : k < 4) : EvP (fun N => impl_shift N (k : Int) (L 16 f)) (· = ((), (L 16 (sh k f), ()))) := by
  refine EvP.of (fun k => impl_shift.eq k _ _) ?_
  have e0 : ((L 16 f).drop 0).take 16 = L 16 f := by rw [List.drop_zero]; exact L_take (Nat.le_refl _)
  rw [e0, L_len]
  refine EvP.chk1 (by decide) (EvP.chk2 (by simp) (by decide) (EvP.to (a := ((), (L 16 (sh k f), (L 16 f, ())))) ?_ (EvP.some rfl)))
  refine EvP.count (f := fun N i (p : List Int) => impl_shift.l0 N (k : Int) ((16 : Nat) : Int) i p (L 16 f)) (n := 16) (inv := fun i p => p = L 16 (fun j => if j < i then sh k f j else f j)) ?_ ?_ 0 (L 16 f) (by decide) (L_eq fun j _ => by rw [if_neg (by omega)])
  · rintro i p hi rfl next
    refine EvP.step (fun n => impl_shift.l0.eq n _ _ _ _ _) ?_
    have e1 : Int.tdiv (i : Int) 4 = ((i / 4 : Nat) : Int) := by rw [Int.tdiv_eq_ediv_of_nonneg (by omega)]; omega
    have e2 : Int.tmod (i : Int) 4 = ((i % 4 : Nat) : Int) := by rw [Int.tmod_eq_emod_of_nonneg (by omega)]; omega
    have e3 : IntKind.i64.wrap ((i / 4 : Nat) : Int) = ((i / 4 : Nat) : Int) := i64w (by omega) (by omega)
    have e4 : IntKind.i64.wrap ((k : Int) * ((i % 4 : Nat) : Int)) = ((k * (i % 4) : Nat) : Int) := by
      have : k * (i % 4) ≤ 3 * 3 := Nat.mul_le_mul (by omega) (by omega)
      rw [show (k : Int) * ((i % 4 : Nat) : Int) = ((k * (i % 4) : Nat) : Int) by simp]
      exact i64w (by omega) (by omega)
    have hm : k * (i % 4) ≤ 3 * 3 := Nat.mul_le_mul (by omega) (by omega)
    have e5 : IntKind.i64.wrap (((i / 4 : Nat) : Int) + ((k * (i % 4) : Nat) : Int)) = ((i / 4 + k * (i % 4) : Nat) : Int) := by rw [i64w (by omega) (by omega)]; omega
    have e6 : Int.tmod ((i / 4 + k * (i % 4) : Nat) : Int) 4 = (((i / 4 + k * (i % 4)) % 4 : Nat) : Int) := by rw [Int.tmod_eq_emod_of_nonneg (by omega)]; omega
    have e7 : IntKind.i64.wrap (4 * (((i / 4 + k * (i % 4)) % 4 : Nat) : Int)) = ((4 * ((i / 4 + k * (i % 4)) % 4) : Nat) : Int) := by rw [i64w (by omega) (by omega)]; omega
    have e8 : IntKind.i64.wrap (((4 * ((i / 4 + k * (i % 4)) % 4) : Nat) : Int) + ((i % 4 : Nat) : Int)) = ((shx k i : Nat) : Int) := by unfold shx; rw [i64w (by omega) (by omega)]; omega
    have e9 : IntKind.i64.wrap ((i : Int) + 1) = ((i + 1 : Nat) : Int) := by rw [i64w (by omega) (by omega)]; omega
    rw [e1, e2, e3, e4, e5, e6, e7, e8, e9]
    have hx := shx_lt k i
    simp only [Int.toNat_natCast, L_len, Nat.zero_add]
    rw [L_at hx, L_set]
    refine EvP.pos (by omega) (EvP.chk2 (by omega) (by omega) (EvP.chk2 (by omega) (by omega) (next _ (L_eq fun j hj => ?_))))
    by_cases e : j = i
    · subst e; rw [if_pos rfl, if_pos (by omega)]; rfl
    · rw [if_neg e]
      by_cases h : j < i
      · rw [if_pos h, if_pos (by omega)]
      · rw [if_neg h, if_neg (by omega)]
  · rintro p rfl
    refine EvP.step (fun n => impl_shift.l0.eq n _ _ _ _ _) (EvP.neg (by omega) (EvP.some ?_))
    rw [L_eq (g := sh k f) fun j hj => if_pos hj]

/-- The first so many terms of a mixed byte. -/
def pm (c f : Nat → Nat) (q i : Nat) : Nat → Nat
  | 0 => 0
  | k + 1 => pm c f q i k ^^^ gf (c k) (f (q + (i + k) % 4))
theorem pm_lt {c f : Nat → Nat} (hc : By c) (q i k : Nat) : pm c f q i k < 256 := by
  induction k with
  | zero => show 0 < 256; decide
  | succ k ih => exact xor_lt ih (gf_lt (hc k))
theorem pm4 (c f : Nat → Nat) (q i : Nat) : pm c f q i 4 = mq c f q i := by
  unfold mq
  simp only [pm, Nat.zero_xor, Nat.add_zero, Nat.xor_assoc]
theorem four (c : Nat → Nat) : ((L 4 c).drop 0).take 4 = L 4 c := by rw [List.drop_zero]; exact L_take (Nat.le_refl _)
/-- Bytes of a row, from one on, mixed. -/
def mixAt (c f : Nat → Nat) (a i : Nat) : Nat := if a ≤ i ∧ i < a + 4 then mq c f a (i - a) else f i
theorem mixed_ok {c f : Nat → Nat} (hc : By c) (hf : By f) {n a : Nat} (ha : a + 4 ≤ n) : EvP (fun N => impl_mixed N (a, 4) (L 4 c) (L n f)) (· = ((), (L n (mixAt c f a), ()))) := by
  refine EvP.of (fun k => impl_mixed.eq k _ _ _) ?_
  refine EvP.chk1 (L_len _ _) (EvP.chk (by simp) (EvP.to (a := (((a, 4), ((), ())), (L n f, (L 4 c, (L 4 (mq c f a), ()))))) ?_ (EvP.some ?_)))
  · refine EvP.count (f := fun N i (p : List Int) => impl_mixed.l0 N (a, 4) i (L n f) (L 4 c) p) (n := 4) (inv := fun i p => p = L 4 (fun j => if j < i then mq c f a j else 0)) ?_ ?_ 0 [0, 0, 0, 0] (by decide) rfl
    · rintro i p hi rfl next
      refine EvP.step (fun n => impl_mixed.l0.eq n _ _ _ _ _) (EvP.pos (by omega) ?_)
      have e9 : IntKind.i64.wrap ((i : Int) + 1) = ((i + 1 : Nat) : Int) := by rw [i64w (by omega) (by omega)]; omega
      rw [e9, four]
      refine EvP.to (a := (((a, 4), ((), ((), ()))), (L n f, (L 4 c, (L 4 (fun j => if j < i + 1 then mq c f a j else 0), ()))))) ?_ (next _ rfl)
      refine EvP.count (f := fun N k (p : List Int) => impl_mixed.l1 N (i : Int) (i : Int) (L 4 c) (a, 4) k (L n f) (L 4 c) p) (n := 4) (inv := fun k p => p = L 4 (fun j => if j = i then pm c f a i k else if j < i then mq c f a j else 0)) ?_ ?_ 0 _ (by decide) ?_
      · rintro k p hk rfl next
        refine EvP.step (fun n => impl_mixed.l1.eq n _ _ _ _ _ _ _ _) (EvP.pos (by omega) ?_)
        have e1 : IntKind.i64.wrap ((i : Int) + (k : Int)) = ((i + k : Nat) : Int) := by rw [i64w (by omega) (by omega)]; omega
        have e2 : Int.tmod ((i + k : Nat) : Int) 4 = (((i + k) % 4 : Nat) : Int) := by rw [Int.tmod_eq_emod_of_nonneg (by omega)]; omega
        have e3 : IntKind.i64.wrap ((k : Int) + 1) = ((k + 1 : Nat) : Int) := by rw [i64w (by omega) (by omega)]; omega
        rw [e1, e2, e3]
        simp only [Int.toNat_natCast, Nat.zero_add]
        rw [L_len, L_at hk, L_at (by omega : a + (i + k) % 4 < n)]
        refine EvP.chk3 (by omega) (by omega) (by omega) (EvP.chk2 (by omega) (by omega) (EvP.chk2 (by omega) (by omega) (EvP.to (mulGf_impl (hc k) (hf _)) (EvP.chk2 (by omega) (by omega) ?_))))
        dsimp only
        rw [L_at hi, if_pos rfl, xor_u8 (pm_lt hc a i k) (gf_lt (hc k)), L_set]
        refine next _ (L_eq fun j hj => ?_)
        by_cases e : j = i
        · rw [if_pos e, if_pos e]; rfl
        · rw [if_neg e, if_neg e, if_neg e]
      · rintro p rfl
        refine EvP.step (fun n => impl_mixed.l1.eq n _ _ _ _ _ _ _ _) (EvP.neg (by omega) (EvP.some ?_))
        refine congrArg (fun l => (((a, 4), ((), ((), ()))), (L n f, (L 4 c, (l, ()))))) (L_eq fun j hj => ?_)
        by_cases e : j = i
        · subst e; rw [if_pos rfl, if_pos (by omega), pm4]
        · rw [if_neg e]
          by_cases h : j < i
          · rw [if_pos h, if_pos (by omega)]
          · rw [if_neg h, if_neg (by omega)]
      · refine L_eq fun j hj => ?_
        by_cases e : j = i
        · subst e; rw [if_neg (by omega), if_pos rfl]; rfl
        · rw [if_neg e]
    · rintro p rfl
      refine EvP.step (fun n => impl_mixed.l0.eq n _ _ _ _ _) (EvP.neg (by omega) (EvP.some ?_))
      rw [L_eq (g := mq c f a) fun j hj => if_pos hj]
  · dsimp only
    rw [four, L_len, show min 4 4 = 4 by decide, L_take (by omega : a ≤ n), L_take (Nat.le_refl 4), L_drop, L_append, L_append]
    refine congrArg (fun l => ((), (l, ()))) ?_
    rw [show a + (4 + (n - (a + 4))) = n by omega]
    refine L_eq fun j hj => ?_
    unfold mixAt
    by_cases h1 : j < a
    · rw [if_pos h1, if_neg (by omega)]
    · rw [if_neg h1]
      by_cases h2 : j - a < 4
      · rw [if_pos h2, if_pos (by omega)]
      · rw [if_neg h2, if_neg (by omega)]
        congr 1
        omega
theorem forth_ok : EvP (fun N => impl_forth N) (· = ((L 4 fw, ()), ())) := EvP.of (fun k => impl_forth.eq k) (EvP.chk (by simp) (EvP.some rfl))
/-- The columns below a byte mixed. -/
def mixTo (c f : Nat → Nat) (a i : Nat) : Nat := if i < a then mx c f i else f i
theorem mixTo_at (c f : Nat → Nat) (q : Nat) : ∀ i, mixAt c (mixTo c f (4 * q)) (4 * q) i = mixTo c f (4 * q + 4) i := by
  intro i
  unfold mixAt
  split
  · rename_i h
    have hm : ∀ m, mixTo c f (4 * q) (4 * q + m) = f (4 * q + m) := fun m => by unfold mixTo; rw [if_neg (by omega)]
    have hr : mixTo c f (4 * q + 4) i = mx c f i := by unfold mixTo; rw [if_pos (by omega)]
    rw [hr]
    unfold mx mq
    rw [hm, hm, hm, hm, show 4 * (i / 4) = 4 * q by omega, show i - 4 * q = i % 4 by omega]
  · rename_i h
    unfold mixTo
    by_cases h1 : i < 4 * q
    · rw [if_pos h1, if_pos (by omega)]
    · rw [if_neg h1, if_neg (by omega)]
theorem mixTo_by {c f : Nat → Nat} (hc : By c) (hf : By f) (a : Nat) : By (mixTo c f a) := fun i => by
  unfold mixTo
  split
  · exact By.mx hc i
  · exact hf i
end Go.Proofs.YtkfpfcpmaejeoaaGreat.CFnRetried
