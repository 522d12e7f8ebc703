/- The program's keys of rounds. -/
import Derived.Test.YtkfpfcpmaejeoaaGreatQAesEncFnRetried
set_option linter.unusedVariables false
set_option linter.unusedSimpArgs false
namespace Go.Proofs.YtkfpfcpmaejeoaaGreat.CFnRetried
open Go Go.Proofs Go.Proofs.YtkfpfcpmaejeoaaGreatPM Go.Proofs.YtkfpfcpmaejeoaaGreat.Q Go.Proofs.YtkfpfcpmaejeoaaGreat.GFnRetried

theorem kw_zero {t : Nat → Nat} (d o : Nat) (w : Nat → Nat) : L (4 * d) (kw t d o w 0) = L (4 * d) w := L_eq fun i hi => by unfold kw; rw [if_pos hi]
theorem kw_next {t : Nat → Nat} {d o : Nat} {w : Nat → Nat} {j : Nat} (hd : 4 ≤ d) : L (4 * d + j) (kw t d o w j) ++ [(((w (4 * d + j - 16) ^^^ kt t d o w j) : Nat) : Int)] = L (4 * d + (j + 1)) (kw t d o w (j + 1)) := by
  rw [L_one, L_append]
  refine L_eq fun i hi => ?_
  unfold kw
  by_cases h1 : i < 4 * d
  · rw [if_pos (by omega), if_pos h1, if_pos h1]
  · by_cases h2 : i < 4 * d + j
    · rw [if_pos h2, if_neg h1, if_pos h2, if_neg h1, if_pos (by omega)]
    · rw [if_neg h2, if_neg h1, if_pos (by omega)]
      obtain rfl : i = 4 * d + j := by omega
      rw [Nat.add_sub_cancel_left]
theorem kw_at {t : Nat → Nat} {d o : Nat} {w : Nat → Nat} {j i : Nat} (h : i < 4 * d) : kw t d o w j i = w i := by unfold kw; rw [if_pos h]

/-- The words so far: row, next factor. -/
def KS (k0 : Nat → Nat) (n : Nat) : Nat × (Nat → Nat) := kst sb n (1, k0)
theorem KS_by {k0 : Nat → Nat} (h : By k0) (n : Nat) : (KS k0 n).1 < 256 ∧ By (KS k0 n).2 := kst_by sbl (by decide) h n

theorem keys_impl {k0 : Nat → Nat} (h0 : By k0) {p0 : List Int} (hb : BoxOK p0) :
    EvP (fun N => impl_cipherOf.l0 N 1 4 p0 (L 16 k0)) (fun r => r.2.1 = p0 ∧ r.2.2.1 = L 176 (KS k0 40).2) := by
  refine EvP.count (f := fun N i (a : Int × List Int) => impl_cipherOf.l0 N a.1 (i + 4) p0 a.2) (n := 40) (inv := fun i a => a.1 = (((KS k0 i).1 : Nat) : Int) ∧ a.2 = L (4 * (4 + i)) (KS k0 i).2) ?_ ?_ 0 (1, L 16 k0) (by decide) ⟨rfl, rfl⟩
  · rintro i ⟨_, _⟩ hi ⟨rfl, rfl⟩ next
    obtain ⟨ho, hw⟩ := KS_by h0 i
    have hks : KS k0 (i + 1) = (ko (4 + i) (KS k0 i).1, kw sb (4 + i) (KS k0 i).1 (KS k0 i).2 4) := rfl
    generalize hq : KS k0 i = q at *
    obtain ⟨o, w⟩ := q
    dsimp only at ho hw hks ⊢
    have hd : (i : Int) + 4 = ((4 + i : Nat) : Int) := by omega
    refine EvP.step (fun n => impl_cipherOf.l0.eq n _ _ _ _) ?_
    rw [hd]
    generalize hdd : 4 + i = d at *
    have e1 : IntKind.i64.wrap (4 * (d : Int)) = ((4 * d : Nat) : Int) := by rw [i64w (by omega) (by omega)]; omega
    have e2 : IntKind.i64.wrap (((4 * d : Nat) : Int) - 4) = ((4 * d - 4 : Nat) : Int) := by rw [i64w (by omega) (by omega)]; omega
    have e3 : Int.tmod (d : Int) 4 = ((d % 4 : Nat) : Int) := by rw [Int.tmod_eq_emod_of_nonneg (by omega)]; omega
    have e4 : IntKind.i64.wrap ((d : Int) + 1) = ((i + 1 : Nat) : Int) + 4 := by rw [i64w (by omega) (by omega)]; omega
    have e5 : ((L (4 * d) w).drop (4 * d - 4)).take 4 = L 4 (fun k => w (4 * d - 4 + k)) := L_cut (by omega)
    rw [e1, e2, e3, e4]
    simp only [Int.toNat_natCast, e5, L_len]
    refine EvP.pos (by omega) (EvP.chk3 (by omega) (by omega) (by omega) (EvP.chk1 (by omega) (EvP.chk (by simp [L_len]) ?_)))
    refine EvP.to (a := (((), (((ko d o : Nat) : Int), ((), ()))), (p0, (L (4 * d) w, (((), ((), ())), (L 4 (kt sb d o w), ())))))) ?_ ?_
    · refine EvP.ite (fun hm => ?_) (fun hm => EvP.some ?_)
      · have hm' : d % 4 = 0 := by omega
        have g : ∀ k, k < 4 → (L 4 (fun k => w (4 * d - 4 + k))).getD k 0 = ((w (4 * d - 4 + k) : Nat) : Int) := fun k hk => L_at hk
        have b : ∀ k, 0 ≤ ((w (4 * d - 4 + k) : Nat) : Int) ∧ ((w (4 * d - 4 + k) : Nat) : Int) < 256 := fun k => ⟨by omega, by have := hw (4 * d - 4 + k); omega⟩
        simp only [g 0 (by decide), g 1 (by decide), g 2 (by decide), g 3 (by decide), Int.toNat_natCast, Nat.zero_add]
        rw [hb.1 _ (hw _), hb.1 _ (hw _), hb.1 _ (hw _), hb.1 _ (hw _), xor_u8 (sb_lt (hw _)) ho]
        refine EvP.chk2 (b 1).1 (b 1).2 (EvP.chk2 (b 2).1 (b 2).2 (EvP.chk2 (b 3).1 (b 3).2 (EvP.chk2 (b 0).1 (b 0).2 (EvP.chk (by simp [L_len]) (EvP.to (mulGf_impl ho (b := 2) (by decide)) (EvP.some ?_))))))
        dsimp only
        rw [show ko d o = gf o 2 by unfold ko; rw [if_pos hm']]
        refine congrArg (fun l => (((), (((gf o 2 : Nat) : Int), ((), ()))), (p0, (L (4 * d) w, (((), ((), ())), (l, ())))))) ?_
        have hk : ∀ k, kt sb d o w k = if k = 0 then sb (w (4 * d - 3)) ^^^ o else sb (w (4 * d - 4 + (k + 1) % 4)) := fun k => by unfold kt; rw [if_pos hm']
        show _ = [(((kt sb d o w 0) : Nat) : Int), (((kt sb d o w 1) : Nat) : Int), (((kt sb d o w 2) : Nat) : Int), (((kt sb d o w 3) : Nat) : Int)]
        rw [hk, hk, hk, hk, if_pos rfl, if_neg (by decide), if_neg (by decide), if_neg (by decide), show 4 * d - 4 + 1 = 4 * d - 3 by omega]
      · have hm' : ¬ d % 4 = 0 := by omega
        rw [show ko d o = o by unfold ko; rw [if_neg hm'], L_eq (f := kt sb d o w) (g := fun k => w (4 * d - 4 + k)) fun k _ => by unfold kt; rw [if_neg hm']]
    · dsimp only
      rw [four]
      refine EvP.to (a := (((), ()), (p0, (L (4 * d + 4) (kw sb d o w 4), (((), ((), ())), (L 4 (kt sb d o w), ())))))) ?_ (next (((ko d o : Nat) : Int), L (4 * d + 4) (kw sb d o w 4)) ⟨by rw [hks], by rw [hks, show 4 * (4 + (i + 1)) = 4 * d + 4 by omega]⟩)
      have hkb : By (kt sb d o w) := fun k => By.kt sbl ho hw k
      refine EvP.count (f := fun N j (p : List Int) => impl_cipherOf.l1 N ((ko d o : Nat) : Int) (d : Int) (L 4 (kt sb d o w)) j p0 p (L 4 (kt sb d o w))) (n := 4) (inv := fun j p => p = L (4 * d + j) (kw sb d o w j)) ?_ ?_ 0 _ (by decide) (kw_zero d o w).symm
      · rintro j p hj rfl next
        refine EvP.step (fun n => impl_cipherOf.l1.eq n _ _ _ _ _ _ _) ?_
        have e6 : IntKind.i64.wrap (((4 * d : Nat) : Int) - 16) = ((4 * d - 16 : Nat) : Int) := by rw [i64w (by omega) (by omega)]; omega
        have e7 : IntKind.i64.wrap (((4 * d - 16 : Nat) : Int) + (j : Int)) = ((4 * d + j - 16 : Nat) : Int) := by rw [i64w (by omega) (by omega)]; omega
        have e8 : IntKind.i64.wrap ((j : Int) + 1) = ((j + 1 : Nat) : Int) := by rw [i64w (by omega) (by omega)]; omega
        rw [e1, e6, e7, e8]
        simp only [Int.toNat_natCast, L_len]
        rw [L_at hj, L_at (by omega : 4 * d + j - 16 < 4 * d + j), kw_at (by omega), xor_u8 (hw _) (hkb _), kw_next (by omega)]
        refine EvP.pos (by omega) (EvP.chk3 (by omega) (by omega) (by omega) (EvP.chk2 (by omega) (by omega) (EvP.chk1 (by unfold most; omega) (next _ rfl))))
      · rintro p rfl
        exact EvP.step (fun n => impl_cipherOf.l1.eq n _ _ _ _ _ _ _) (EvP.neg (by omega) (EvP.some rfl))
  · rintro ⟨_, _⟩ ⟨rfl, rfl⟩
    exact EvP.step (fun n => impl_cipherOf.l0.eq n _ _ _ _) (EvP.neg (by omega) (EvP.some ⟨rfl, rfl⟩))
theorem cipherOf_ok {s : ByteArray} (hs : s.size = 16) : EvP (fun N => impl_cipherOf N s) (fun r => BoxOK r.2.2.1 ∧ r.2.2.2.1 = L 176 (KS (byteAt s) 40).2) := by
  refine EvP.of (fun k => impl_cipherOf.eq k _) (EvP.andK box_ok ?_)
  rintro r ⟨_, h1, h2⟩
  rw [bytesL_L, hs]
  refine EvP.andK (keys_impl (byteAt_lt s) ⟨h1, h2⟩) ?_
  rintro q ⟨h3, h4⟩
  exact EvP.some ⟨by show BoxOK q.2.1; rw [h3]; exact ⟨h1, h2⟩, h4⟩
end Go.Proofs.YtkfpfcpmaejeoaaGreat.CFnRetried
