/- A text is spoilt: some of its bytes are others, more, or gone. -/
import Derived.Test.YtdmnpmhdindabaaQCuFnCapsules
set_option linter.unusedVariables false
set_option linter.unusedSimpArgs false
namespace Go.Proofs.Ytdmnpmhdindabaa.CFnCapsules
open Go Go.Proofs Go.Proofs.YtdmnpmhdindabaaPM Go.Proofs.Ytdmnpmhdindabaa.Q Go.Proofs.Ytdmnpmhdindabaa.GFnCapsules
theorem spoilt_l {g : ByteArray} (hg : 1 ≤ g.size) (hg2 : g.size ≤ 100) : ∀ (d : Nat) {b : Int} (o : ByteArray) (l : List Int) (a s : Int), Bytes l → 0 ≤ a → a ≤ b → b + 6 * d ≤ 4611686018424000000 → o.size + d ≤ 1000000 → d ≤ 3 →
    EvP (fun N => spec_l1Cur_spoilt.l0 N g o (d : Int) l a s) (fun r => (r.1.1.size : Int) ≤ (o.size : Int) + d ∧ (∀ y ∈ r.2.1.1, 0 ≤ y ∧ y ≤ 255) ∧ 0 ≤ r.2.1.2.1 ∧ r.2.1.2.1 ≤ b + 6 * d) := by
  intro d
  induction d with
  | zero =>
    intro b o l a s hl h0 h1 hb ho hd
    refine EvP.step (fun N => spec_l1Cur_spoilt.l0.eq N _ _ _ _ _ _) ?_
    exact EvP.to (a := (((), (false, ())), ((l, (a, (s, ()))), ()))) (EvP.neg (by omega) (EvP.some rfl)) (EvP.no rfl (EvP.some ⟨by dsimp only; omega, hl, h0, by dsimp only; omega⟩))
  | succ d ih =>
    intro b o l a s hl h0 h1 hb ho hd
    refine EvP.step (fun N => spec_l1Cur_spoilt.l0.eq N _ _ _ _ _ _) ?_
    refine EvP.to (a := (((), (decide (0 < (o.size : Int)), ())), ((l, (a, (s, ()))), ()))) (EvP.pos (by omega) (EvP.some rfl)) ?_
    refine EvP.ite (fun hz => ?_) (fun hz => EvP.some ⟨by dsimp only; omega, hl, h0, by dsimp only; omega⟩)
    refine EvP.andK (Q := fun r => (r.1.2.1.size : Int) ≤ (o.size : Int) + 1 ∧ (∀ y ∈ r.2.1.1, 0 ≤ y ∧ y ≤ 255) ∧ 0 ≤ r.2.1.2.1 ∧ r.2.1.2.1 ≤ b + 6) ?_ ?_
    · refine EvP.andK (pick_s (b := b) (m := 1000000) hl h0 h1 (by omega) (by omega) (by decide)) ?_
      rintro u ⟨⟨p1, p2, p3, p4⟩, p5, p6, p7, -⟩
      refine EvP.andK (pick_s (b := b + 2) (m := 100) p5 p6 p7 (by omega) (by omega) (by decide)) ?_
      rintro v ⟨⟨q1, q2, q3, q4⟩, q5, q6, q7, -⟩
      refine EvP.chk2 q1 (by omega) (EvP.andK (pick_s (b := b + 4) (m := 2) q5 q6 (by omega) (by omega) (by decide) (by decide)) ?_)
      rintro w ⟨_, w5, w6, w7, -⟩
      have e1 : IntKind.i64.wrap (u.1.1 + 1) = u.1.1 + 1 := i64w (by omega) (by omega)
      have hx : u.1.1 < (o.size : Int) := by omega
      have s1 : (o.extract 0 u.1.1.toNat).size = u.1.1.toNat := by rw [extract_size (by omega)]; omega
      have s2 : (o.extract u.1.1.toNat (Int.toNat (o.size : Int))).size = o.size - u.1.1.toNat := by rw [Int.toNat_natCast, extract_size (Nat.le_refl _)]
      have s3 : (o.extract (Int.toNat (u.1.1 + 1)) (Int.toNat (o.size : Int))).size = o.size - (u.1.1 + 1).toNat := by rw [Int.toNat_natCast, extract_size (Nat.le_refl _)]
      have s4 : ∀ x : Int, (strL [x]).size = 1 := fun x => strL_size _
      rw [e1]
      refine EvP.ite (fun _ => ?_) (fun _ => EvP.ite (fun _ => ?_) (fun _ => ?_))
      · refine EvP.chk2 p1 (by omega) (EvP.chk1 (by rw [s1, s4]; omega) (EvP.chk3 p1 (by omega) (Int.le_refl _) (EvP.chk1 (by rw [ByteArray.size_append, s1, s4, s2]; omega) (EvP.some ⟨?_, w5, w6, by dsimp only; omega⟩))))
        dsimp only
        rw [ByteArray.size_append, ByteArray.size_append, s1, s4, s2]; omega
      · refine EvP.chk2 p1 (by omega) (EvP.chk1 (by rw [s1, s4]; omega) (EvP.chk3 (by omega) (by omega) (Int.le_refl _) (EvP.chk1 (by rw [ByteArray.size_append, s1, s4, s3]; omega) (EvP.some ⟨?_, w5, w6, by dsimp only; omega⟩))))
        dsimp only
        rw [ByteArray.size_append, ByteArray.size_append, s1, s4, s3]; omega
      · refine EvP.chk2 p1 (by omega) (EvP.chk3 (by omega) (by omega) (Int.le_refl _) (EvP.chk1 (by rw [s1, s3]; omega) (EvP.some ⟨?_, w5, w6, by dsimp only; omega⟩)))
        dsimp only
        rw [ByteArray.size_append, s1, s3]; omega
    · rintro j ⟨j1, j2, j3, j4⟩
      rw [show IntKind.i64.wrap (((d + 1 : Nat) : Int) - 1) = ((d : Nat) : Int) by rw [i64w (by omega) (by omega)]; omega]
      refine (ih (b := b + 6) _ _ _ _ j2 j3 j4 (by omega) (by omega) (by omega)).mono ?_
      rintro r ⟨r1, r2, r3, r4⟩
      exact ⟨by omega, r2, r3, by omega⟩
theorem spoilt_s {o g : ByteArray} {l : List Int} {a s b m : Int} (hl : Bytes l) (hg : 1 ≤ g.size) (hg2 : g.size ≤ 100) (ho : (o.size : Int) ≤ m) (hm : m ≤ 900000) (h0 : 0 ≤ a) (h1 : a ≤ b) (hb : b ≤ 4611686018423000000) :
    EvP (fun N => spec_l1Cur_spoilt N o g l a s) (fun r => (r.1.1.size : Int) ≤ m + 2 ∧ (∀ y ∈ r.2.1.1, 0 ≤ y ∧ y ≤ 255) ∧ 0 ≤ r.2.1.2.1 ∧ r.2.1.2.1 ≤ b + 14 ∧ True) := by
  refine EvP.of (fun N => spec_l1Cur_spoilt.eq N _ _ _ _ _) (EvP.andK (pick_s (b := b) (m := 2) hl h0 h1 (by omega) (by decide) (by decide)) ?_)
  rintro u ⟨⟨p1, p2, -, -⟩, p5, p6, p7, -⟩
  obtain ⟨d, hd⟩ := Int.eq_ofNat_of_zero_le p1
  rw [hd]
  refine EvP.andK (spoilt_l (b := b + 2) hg hg2 d o _ _ _ p5 p6 p7 (by omega) (by omega) (by omega)) ?_
  rintro r ⟨r1, r2, r3, r4⟩
  exact EvP.some ⟨by dsimp only; omega, r2, r3, by dsimp only; omega, trivial⟩
end Go.Proofs.Ytdmnpmhdindabaa.CFnCapsules
