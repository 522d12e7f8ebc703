/- The program's AES: rounds, keys. -/
import Derived.Test.YtkfpfcpmaejeoaaGreatQAesImplFnRetried
set_option linter.unusedVariables false
set_option linter.unusedSimpArgs false
namespace Go.Proofs.YtkfpfcpmaejeoaaGreat.CFnRetried
open Go Go.Proofs Go.Proofs.YtkfpfcpmaejeoaaGreatPM Go.Proofs.YtkfpfcpmaejeoaaGreat.Q Go.Proofs.YtkfpfcpmaejeoaaGreat.GFnRetried

def BoxOK (p : List Int) : Prop := (∀ i, i < 256 → p.getD i 0 = (sb i : Int)) ∧ ∀ i, i < 256 → p.getD (256 + i) 0 = (usb i : Int)

theorem enc_sub {f : Nat → Nat} (hf : By f) {p1 p2 : List Int} (hb : BoxOK p1) (r : Int) :
    EvP (fun N => impl_cipher_encrypt.l1 N r ((L 16 f).length : Int) 0 p1 p2 (L 16 f)) (· = (((), ((), ())), (((), ((), ())), (p1, (p2, (L 16 (fun i => sb (f i)), ())))))) := by
  rw [L_len]
  refine EvP.count (f := fun N i (p : List Int) => impl_cipher_encrypt.l1 N r ((16 : Nat) : Int) i p1 p2 p) (n := 16) (inv := fun i p => p = L 16 (fun j => if j < i then sb (f j) else f j)) ?_ ?_ 0 (L 16 f) (by decide) (L_eq fun j _ => by rw [if_neg (by omega)])
  · rintro i p hi rfl next
    refine EvP.step (fun k => impl_cipher_encrypt.l1.eq k _ _ _ _ _ _) ?_
    have e3 : IntKind.i64.wrap ((i : Int) + 1) = ((i + 1 : Nat) : Int) := by rw [i64w (by omega) (by omega)]; omega
    rw [e3]
    simp only [Int.toNat_natCast, L_len]
    have hfi := hf i
    have hgi : (L 16 (fun j => if j < i then sb (f j) else f j)).getD i 0 = ((f i : Nat) : Int) := by rw [L_at hi, if_neg (by omega)]
    simp only [hgi, Int.toNat_natCast, Nat.zero_add]
    rw [hb.1 _ hfi, L_set]
    refine EvP.pos (by omega) (EvP.chk2 (by omega) (by omega) (EvP.chk2 (by omega) (by omega) (EvP.chk2 (by omega) (by omega) (next _ (L_eq fun j hj => ?_)))))
    by_cases e : j = i
    · subst e; rw [if_pos rfl, if_pos (by omega)]
    · rw [if_neg e]
      by_cases h : j < i
      · rw [if_pos h, if_pos (by omega)]
      · rw [if_neg h, if_neg (by omega)]
  · rintro p rfl
    refine EvP.step (fun k => impl_cipher_encrypt.l1.eq k _ _ _ _ _ _) (EvP.neg (by omega) (EvP.some ?_))
    rw [L_eq (g := fun i => sb (f i)) fun j hj => if_pos hj]
theorem mixTo_all (c f : Nat → Nat) : L 16 (mixTo c f (4 * 4)) = L 16 (mx c f) := L_eq fun j hj => by unfold mixTo; rw [if_pos (by omega)]
theorem enc_mix {f : Nat → Nat} (hf : By f) (p1 p2 : List Int) (r : Nat) :
    EvP (fun N => impl_cipher_encrypt.l2 N (r : Int) 0 p1 p2 (L 16 f)) (· = (((), ((), ())), (((), ((), ())), (p1, (p2, (L 16 (if r < 10 then mx fw f else f), ())))))) := by
  by_cases hr : r < 10
  · rw [if_pos hr, ← mixTo_all]
    refine EvP.count (f := fun N i (p : List Int) => impl_cipher_encrypt.l2 N (r : Int) (4 * i) p1 p2 p) (n := 4) (inv := fun i p => p = L 16 (mixTo fw f (4 * i))) ?_ ?_ 0 (L 16 f) (by decide) (L_eq fun j _ => by unfold mixTo; rw [if_neg (by omega)])
    · rintro i p hi rfl next
      refine EvP.step (fun k => impl_cipher_encrypt.l2.eq k _ _ _ _ _) ?_
      refine EvP.to (a := (((), ((), (true, ()))), (((), ((), ())), (p1, (p2, (L 16 (mixTo fw f (4 * i)), ())))))) (EvP.pos (by omega) (EvP.some (by rw [show decide ((r : Int) < 10) = true from decide_eq_true (by omega)]))) (EvP.yes rfl ?_)
      have e1 : IntKind.i64.wrap (4 * (i : Int) + 4) = 4 * ((i + 1 : Nat) : Int) := by rw [i64w (by omega) (by omega)]; omega
      dsimp only
      rw [e1, L_len, tn (n := 4 * i) (by omega), tn (x := 4 * ((i + 1 : Nat) : Int)) (n := 4 * i + 4) (by omega), show 4 * i + 4 - 4 * i = 4 by omega]
      refine EvP.chk3 (by omega) (by omega) (by omega) (EvP.to forth_ok (EvP.to (mixed_ok fw_lt (mixTo_by fw_lt hf _) (by omega)) (next _ ?_)))
      dsimp only
      rw [show 4 * (i + 1) = 4 * i + 4 by omega]
      exact L_eq fun j _ => mixTo_at _ _ _ _
    · rintro p rfl
      refine EvP.step (fun k => impl_cipher_encrypt.l2.eq k _ _ _ _ _) ?_
      exact EvP.to (a := (((), ((), (false, ()))), (((), ((), ())), (p1, (p2, (L 16 (mixTo fw f (4 * 4)), ())))))) (EvP.neg (by omega) (EvP.some rfl)) (EvP.no rfl (EvP.some rfl))
  · rw [if_neg hr]
    refine EvP.step (fun k => impl_cipher_encrypt.l2.eq k _ _ _ _ _) ?_
    exact EvP.to (a := (((), ((), (false, ()))), (((), ((), ())), (p1, (p2, (L 16 f, ())))))) (EvP.pos (by decide) (EvP.some (by rw [show decide ((r : Int) < 10) = false from decide_eq_false (by omega)]))) (EvP.no rfl (EvP.some rfl))
theorem sbl : ∀ x, x < 256 → sb x < 256 := fun x h => sb_lt h
theorem encrypt_ok {w : Nat → Nat} (hw : By w) {p1 : List Int} (hb : BoxOK p1) {s : ByteArray} (hs : s.size = 16) :
    EvP (fun N => impl_cipher_encrypt N s p1 (L 176 w)) (· = ((strL (L 16 (encN sb w 10 (byteAt s))), ()), (((), ((), ())), (p1, (L 176 w, ()))))) := by
  have hf := byteAt_lt s
  refine EvP.of (fun k => impl_cipher_encrypt.eq k _ _ _) ?_
  rw [bytesL_L, hs]
  refine EvP.to (addKey_ok hf hw (r := 0) (by decide) p1) (EvP.to (a := (((), ()), (((), ((), ())), (p1, (L 176 w, (L 16 (encN sb w 10 (byteAt s)), ())))))) ?_ (EvP.some rfl))
  refine EvP.count (f := fun N i (p : List Int) => impl_cipher_encrypt.l0 N i p1 (L 176 w) p) (n := 11) (inv := fun i p => 1 ≤ i ∧ p = L 16 (encN sb w (i - 1) (byteAt s))) ?_ ?_ 1 _ (by decide) ⟨by decide, rfl⟩
  · rintro i p hi ⟨h1, rfl⟩ next
    obtain ⟨r, rfl⟩ : ∃ r, i = r + 1 := ⟨i - 1, by omega⟩
    have hg : By (encN sb w r (byteAt s)) := By.encN hw sbl hf r
    have hg1 : By (fun i => sb (encN sb w r (byteAt s) i)) := fun i => sb_lt (hg i)
    refine EvP.step (fun k => impl_cipher_encrypt.l0.eq k _ _ _ _) (EvP.pos (by omega) ?_)
    have e3 : IntKind.i64.wrap (((r + 1 : Nat) : Int) + 1) = ((r + 1 + 1 : Nat) : Int) := by rw [i64w (by omega) (by omega)]; omega
    rw [e3, Nat.add_sub_cancel]
    refine EvP.to (enc_sub hg hb _) (EvP.to (shift_ok (k := 1) (f := fun i => sb (encN sb w r (byteAt s) i)) (by decide)) (EvP.to (enc_mix (f := sh 1 fun i => sb (encN sb w r (byteAt s) i)) (hg1.sh 1) p1 (L 176 w) (r + 1)) ?_))
    have hm : By (if r + 1 < 10 then mx fw (sh 1 fun i => sb (encN sb w r (byteAt s) i)) else sh 1 fun i => sb (encN sb w r (byteAt s) i)) := by
      split
      · exact By.mx fw_lt
      · exact hg1.sh 1
    refine EvP.to (addKey_ok hm hw (r := r + 1) (by omega) p1) (next _ ⟨by omega, rfl⟩)
  · rintro p ⟨_, rfl⟩
    exact EvP.step (fun k => impl_cipher_encrypt.l0.eq k _ _ _ _) (EvP.neg (by omega) (EvP.some rfl))
end Go.Proofs.YtkfpfcpmaejeoaaGreat.CFnRetried
