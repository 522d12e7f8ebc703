/- The program's AES back. -/
import Derived.Test.YtknoemdkfhkkhaaQAesEncFnIds
set_option linter.unusedVariables false
set_option linter.unusedSimpArgs false
namespace Go.Proofs.Ytknoemdkfhkkhaa.CFnIds
open Go Go.Proofs Go.Proofs.YtknoemdkfhkkhaaPM Go.Proofs.Ytknoemdkfhkkhaa.Q Go.Proofs.Ytknoemdkfhkkhaa.GFnIds

theorem backward_ok : EvP (fun N => impl_backward N) (· = ((L 4 bw, ()), ())) := EvP.of (fun k => impl_backward.eq k) (EvP.chk (by simp) (EvP.some rfl))
theorem dec_sub {f : Nat → Nat} (hf : By f) {p1 p2 : List Int} (hb : BoxOK p1) (r : Int) :
    EvP (fun N => impl_cipher_decrypt.l2 N r ((L 16 f).length : Int) 0 p1 p2 (L 16 f)) (· = (((), ((), ())), (((), ((), ())), (p1, (p2, (L 16 (fun i => usb (f i)), ())))))) := by
  rw [L_len]
  refine EvP.count (f := fun N i (p : List Int) => impl_cipher_decrypt.l2 N r ((16 : Nat) : Int) i p1 p2 p) (n := 16) (inv := fun i p => p = L 16 (fun j => if j < i then usb (f j) else f j)) ?_ ?_ 0 (L 16 f) (by decide) (L_eq fun j _ => by rw [if_neg (by omega)])
  · rintro i p hi rfl next
    refine EvP.step (fun k => impl_cipher_decrypt.l2.eq k _ _ _ _ _ _) ?_
    have e3 : IntKind.i64.wrap ((i : Int) + 1) = ((i + 1 : Nat) : Int) := by rw [i64w (by omega) (by omega)]; omega
    rw [e3]
    simp only [Int.toNat_natCast, L_len]
    have hfi := hf i
    have hgi : (L 16 (fun j => if j < i then usb (f j) else f j)).getD i 0 = ((f i : Nat) : Int) := by rw [L_at hi, if_neg (by omega)]
    simp only [hgi, Int.toNat_natCast, Nat.zero_add]
    rw [hb.2 _ hfi, L_set]
    refine EvP.pos (by omega) (EvP.chk2 (by omega) (by omega) (EvP.chk2 (by omega) (by omega) (EvP.chk2 (by omega) (by omega) (next _ (L_eq fun j hj => ?_)))))
    by_cases e : j = i
    · subst e; rw [if_pos rfl, if_pos (by omega)]
    · rw [if_neg e]
      by_cases h : j < i
      · rw [if_pos h, if_pos (by omega)]
      · rw [if_neg h, if_neg (by omega)]
  · rintro p rfl
    refine EvP.step (fun k => impl_cipher_decrypt.l2.eq k _ _ _ _ _ _) (EvP.neg (by omega) (EvP.some ?_))
    rw [L_eq (g := fun i => usb (f i)) fun j hj => if_pos hj]

theorem dec_mix {f : Nat → Nat} (hf : By f) (p1 p2 : List Int) (r : Nat) :
    EvP (fun N => impl_cipher_decrypt.l1 N (r : Int) 0 p1 p2 (L 16 f)) (· = (((), ((), ())), (((), ((), ())), (p1, (p2, (L 16 (if r < 10 then mx bw f else f), ())))))) := by
  by_cases hr : r < 10
  · rw [if_pos hr, ← mixTo_all]
    refine EvP.count (f := fun N i (p : List Int) => impl_cipher_decrypt.l1 N (r : Int) (4 * i) p1 p2 p) (n := 4) (inv := fun i p => p = L 16 (mixTo bw f (4 * i))) ?_ ?_ 0 (L 16 f) (by decide) (L_eq fun j _ => by unfold mixTo; rw [if_neg (by omega)])
    · rintro i p hi rfl next
      refine EvP.step (fun k => impl_cipher_decrypt.l1.eq k _ _ _ _ _) ?_
      refine EvP.to (a := (((), ((), (true, ()))), (((), ((), ())), (p1, (p2, (L 16 (mixTo bw f (4 * i)), ())))))) (EvP.pos (by omega) (EvP.some (by rw [show decide ((r : Int) < 10) = true from decide_eq_true (by omega)]))) (EvP.yes rfl ?_)
      have e1 : IntKind.i64.wrap (4 * (i : Int) + 4) = 4 * ((i + 1 : Nat) : Int) := by rw [i64w (by omega) (by omega)]; omega
      dsimp only
      rw [e1, L_len, tn (n := 4 * i) (by omega), tn (x := 4 * ((i + 1 : Nat) : Int)) (n := 4 * i + 4) (by omega), show 4 * i + 4 - 4 * i = 4 by omega]
      refine EvP.chk3 (by omega) (by omega) (by omega) (EvP.to backward_ok (EvP.to (mixed_ok bw_lt (mixTo_by bw_lt hf _) (by omega)) (next _ ?_)))
      dsimp only
      rw [show 4 * (i + 1) = 4 * i + 4 by omega]
      exact L_eq fun j _ => mixTo_at _ _ _ _
    · rintro p rfl
      refine EvP.step (fun k => impl_cipher_decrypt.l1.eq k _ _ _ _ _) ?_
      exact EvP.to (a := (((), ((), (false, ()))), (((), ((), ())), (p1, (p2, (L 16 (mixTo bw f (4 * 4)), ())))))) (EvP.neg (by omega) (EvP.some rfl)) (EvP.no rfl (EvP.some rfl))
  · rw [if_neg hr]
    refine EvP.step (fun k => impl_cipher_decrypt.l1.eq k _ _ _ _ _) ?_
    exact EvP.to (a := (((), ((), (false, ()))), (((), ((), ())), (p1, (p2, (L 16 f, ())))))) (EvP.pos (by decide) (EvP.some (by rw [show decide ((r : Int) < 10) = false from decide_eq_false (by omega)]))) (EvP.no rfl (EvP.some rfl))

theorem decrypt_ok {w : Nat → Nat} (hw : By w) {p1 : List Int} (hb : BoxOK p1) {s : ByteArray} (hs : s.size = 16) :
    EvP (fun N => impl_cipher_decrypt N s p1 (L 176 w)) (· = ((strL (L 16 (decN usb w 10 (byteAt s))), ()), (((), ((), ())), (p1, (L 176 w, ()))))) := by
  have hf := byteAt_lt s
  refine EvP.of (fun k => impl_cipher_decrypt.eq k _ _ _) ?_
  rw [bytesL_L, hs]
  refine EvP.andK (Q := fun x => ∃ g, By g ∧ x = (((), ((), ())), (((), ((), ())), (p1, (L 176 w, (L 16 g, ()))))) ∧ decN usb w 0 g = decN usb w 10 (byteAt s)) ?_ ?_
  · refine EvP.count (f := fun N i (p : List Int) => impl_cipher_decrypt.l0 N (10 - i) p1 (L 176 w) p) (n := 10) (inv := fun i p => ∃ g, By g ∧ p = L 16 g ∧ decN usb w (10 - i) g = decN usb w 10 (byteAt s)) ?_ ?_ 0 _ (by decide) ⟨_, hf, rfl, rfl⟩
    · rintro i p hi ⟨g, hg, rfl, he⟩ next
      obtain ⟨r, hr⟩ : ∃ r, 10 - i = r + 1 := ⟨9 - i, by omega⟩
      rw [hr] at he
      have e0 : (10 : Int) - (i : Int) = ((r + 1 : Nat) : Int) := by omega
      have e3 : IntKind.i64.wrap (((r + 1 : Nat) : Int) - 1) = 10 - ((i + 1 : Nat) : Int) := by rw [i64w (by omega) (by omega)]; omega
      refine EvP.step (fun k => impl_cipher_decrypt.l0.eq k _ _ _ _) ?_
      rw [e0, e3]
      have h1 : By (ak w (r + 1) g) := By.ak hw hg (r + 1)
      have h2 : By (if r + 1 < 10 then mx bw (ak w (r + 1) g) else ak w (r + 1) g) := by
        split
        · exact By.mx bw_lt
        · exact h1
      refine EvP.pos (by omega) (EvP.to (addKey_ok hg hw (r := r + 1) (by omega) p1) (EvP.to (dec_mix h1 p1 (L 176 w) (r + 1)) (EvP.to (shift_ok (k := 3) (by decide)) (EvP.to (dec_sub (h2.sh 3) hb _) (next _ ⟨dnd usb w (r + 1) g, By.dnd usb_lt _ _, rfl, ?_⟩)))))
      rw [show 10 - (i + 1) = r by omega]
      exact he
    · rintro p ⟨g, hg, rfl, he⟩
      exact EvP.step (fun k => impl_cipher_decrypt.l0.eq k _ _ _ _) (EvP.neg (by omega) (EvP.some ⟨g, hg, rfl, he⟩))
  · rintro x ⟨g, hg, rfl, he⟩
    refine EvP.to (addKey_ok hg hw (r := 0) (by decide) p1) (EvP.some ?_)
    have he : ak w 0 g = decN usb w 10 (byteAt s) := he
    rw [he]
end Go.Proofs.Ytknoemdkfhkkhaa.CFnIds
