/- What is drawn: a key that is not long, and few short texts. -/
import Derived.Test.YthkjjombaoffcaaGreatDoorQRnkGFnRendezvous
import Derived.Test.YthkjjombaoffcaaGreatDoorSFnRendezvous
set_option linter.unusedVariables false
set_option linter.unusedSimpArgs false
namespace Go.Proofs.YthkjjombaoffcaaGreatDoor.CFnRendezvous
open Go Go.Proofs Go.Proofs.YthkjjombaoffcaaGreatDoorPM Go.Proofs.YthkjjombaoffcaaGreatDoor.Q Go.Proofs.YthkjjombaoffcaaGreatDoor.GFnRendezvous

/-- A cursor, not far on. -/
def CuOk (b : Int) (c : List Int × (Int × (Int × Unit))) : Prop := Bytes c.1 ∧ 0 ≤ c.2.1 ∧ c.2.1 ≤ b
def Tiny (l : List ByteArray) : Prop := ∀ x ∈ l, x.size ≤ 100
theorem Tiny.app {l m : List ByteArray} (h : Tiny l) (k : Tiny m) : Tiny (l ++ m) := fun x hx => (List.mem_append.1 hx).elim (h x) (k x)
theorem Tiny.one {x : ByteArray} (h : x.size ≤ 100) : Tiny [x] := fun y hy => by
  have : y = x := by simpa using hy
  subst this
  exact h
def names : List ByteArray := [(⟨#[98, 49]⟩ : ByteArray), (⟨#[98, 50]⟩ : ByteArray), (⟨#[98, 51]⟩ : ByteArray), (⟨#[98, 52]⟩ : ByteArray), (⟨#[101, 100, 103, 101]⟩ : ByteArray)]
theorem names_tiny : Tiny names := show ∀ x ∈ names, x.size ≤ 100 by decide
theorem names_at (i : Nat) : (names.getD i ⟨#[]⟩).size ≤ 100 := by
  rw [List.getD_eq_getElem?_getD]
  cases h : names[i]? with
  | none => exact Nat.zero_le _
  | some x => exact names_tiny x (List.mem_of_getElem? h)
theorem live_l0 {b : Int} (hb : b ≤ 1000000) : ∀ (d i : Nat) (l : List Int) (a s : Int) (p : List ByteArray), i + d = 5 → Bytes l → 0 ≤ a → a ≤ b + 2 * i → p.length ≤ i → Tiny p →
    EvP (fun N => spec_l1Cur_live.l0 N names (i : Int) l a s p) (fun r => CuOk (b + 10) r.2.1 ∧ r.2.2.1.length ≤ 5 ∧ Tiny r.2.2.1)
  | 0, i, l, a, s, p, h, hl, h0, h1, h2, h3 => EvP.step (fun N => spec_l1Cur_live.l0.eq N _ _ _ _ _ _) (EvP.neg (by omega) (EvP.some ⟨⟨hl, h0, by dsimp only; omega⟩, by dsimp only; omega, h3⟩))
  | d + 1, i, l, a, s, p, h, hl, h0, h1, h2, h3 => by
    have hm : (most : Nat) = 68719476736 := rfl
    have w1 : IntKind.i64.wrap ((i : Int) + 1) = ((i + 1 : Nat) : Int) := by rw [i64w (by omega) (by omega)]; omega
    refine EvP.step (fun N => spec_l1Cur_live.l0.eq N _ _ _ _ _ _) (EvP.pos (by omega) (EvP.andK (Q := fun r => CuOk (b + 2 * (i + 1 : Nat)) r.2.1 ∧ r.2.2.1.length ≤ i + 1 ∧ Tiny r.2.2.1) ?_ ?_))
    · refine EvP.chk2 (by omega) (by show (i : Int) < 5; omega) (EvP.andK (one_s (b := b + 2 * i) hl h0 h1 (by omega)) ?_)
      rintro u ⟨e1, e2, e3, -⟩
      refine EvP.sel (fun _ => EvP.chk1 (by rw [hm]; omega) (EvP.some ⟨⟨e1, e2, by dsimp only; omega⟩, by simp; omega, h3.app (Tiny.one (names_at _))⟩)) (fun _ => EvP.some ⟨⟨e1, e2, by dsimp only; omega⟩, by dsimp only; omega, h3⟩)
    · rintro ⟨x, ⟨l', a', s', ⟨⟩⟩, p', ⟨⟩⟩ ⟨⟨e1, e2, e3⟩, e4, e5⟩
      dsimp only at e1 e2 e3 e4 e5 ⊢
      rw [w1]
      exact live_l0 hb d (i + 1) l' a' s' p' (by omega) e1 e2 e3 e4 e5
theorem live_l1 {b : Int} (hb : b ≤ 1000000) (q : List ByteArray) : ∀ (d i : Nat) (l : List Int) (a s : Int) (p : List ByteArray), i + d = 13 → Bytes l → 0 ≤ a → a ≤ b + 2 * i → p.length ≤ i → Tiny p →
    EvP (fun N => spec_l1Cur_live.l1 N (i : Int) l a s q p) (fun r => CuOk (b + 40) r.2.1 ∧ r.2.2.2.1.length ≤ 13 ∧ Tiny r.2.2.2.1)
  | d, i, l, a, s, p, h, hl, h0, h1, h2, h3 => by
    have hm : (most : Nat) = 68719476736 := rfl
    have w1 : IntKind.i64.wrap ((i : Int) + 1) = ((i + 1 : Nat) : Int) := by rw [i64w (by omega) (by omega)]; omega
    refine EvP.step (fun N => spec_l1Cur_live.l1.eq N _ _ _ _ _ _) (EvP.andK (pick_s (b := b + 2 * i) (n := 2) (m := 1) hl h0 h1 (by omega) (by omega) (by omega)) ?_)
    rintro u ⟨⟨p4, p5, p6, p7⟩, e1, e2, e3, -⟩
    refine EvP.ite (fun hlt => ?_) (fun hge => EvP.some ⟨⟨e1, e2, by dsimp only; omega⟩, by dsimp only; omega, h3⟩)
    rw [i64w (n := 12 + u.1.1) (by omega) (by omega)] at hlt
    have hsz : ((⟨#[120]⟩ : ByteArray) ++ strL [IntKind.u8.wrap (IntKind.i64.wrap (97 + (i : Int)))]).size = 2 := by
      rw [ByteArray.size_append, strL_size]; rfl
    match d with
    | d + 1 =>
      refine EvP.chk1 (by rw [strL_size]; show 1 + 1 ≤ _; decide) (EvP.chk1 (by rw [hm]; omega) ?_)
      rw [w1]
      exact live_l1 hb q d (i + 1) _ _ _ _ (by omega) e1 e2 (by omega) (by simp; omega) (h3.app (Tiny.one (by rw [hsz]; decide)))
    | 0 => omega
theorem live_s {l : List Int} {a s b : Int} (hl : Bytes l) (h0 : 0 ≤ a) (h1 : a ≤ b) (hb : b ≤ 100000) :
    EvP (fun N => spec_l1Cur_live N l a s) (fun r => CuOk (b + 100) r.2.1 ∧ r.2.2.1.length ≤ 13 ∧ Tiny r.2.2.1) := by
  have hm : (most : Nat) = 68719476736 := rfl
  refine EvP.of (fun N => spec_l1Cur_live.eq N _ _ _) (EvP.andK (live_l0 (b := b) (by omega) 5 0 l a s [] rfl hl h0 (by omega) (by simp) (fun _ h => by cases h)) ?_)
  rintro ⟨x, ⟨l', a', s', ⟨⟩⟩, p', ⟨⟩⟩ ⟨⟨e1, e2, e3⟩, e4, e5⟩
  dsimp only at e1 e2 e3 e4 e5 ⊢
  refine EvP.andK (pick_s (b := b + 10) (n := 40) (m := 39) e1 e2 e3 (by omega) (by omega) (by omega)) ?_
  rintro u ⟨⟨p4, p5, p6, p7⟩, f1, f2, f3, -⟩
  refine EvP.sel (fun _ => ?_) (fun _ => EvP.sel (fun _ => ?_) (fun _ => EvP.some ⟨⟨f1, f2, by dsimp only; omega⟩, by dsimp only; omega, e5⟩))
  · refine EvP.andK (of_s (b := b + 12) (P := fun x => x.size ≤ 100) (by decide) (by decide) f1 f2 (by omega) (by omega)) ?_
    rintro v ⟨g, g1, g2, g3, -⟩
    exact EvP.chk1 (by rw [hm]; omega) (EvP.some ⟨⟨g1, g2, by dsimp only; omega⟩, by simp; omega, e5.app (Tiny.one g)⟩)
  · refine EvP.andK (live_l1 (b := b + 12) (by omega) p' 13 0 _ _ _ [] rfl f1 f2 (by omega) (by simp) (fun _ h => by cases h)) ?_
    rintro ⟨y, ⟨l'', a'', s'', ⟨⟩⟩, p'', q, ⟨⟩⟩ ⟨⟨g1, g2, g3⟩, g4, g5⟩
    exact EvP.some ⟨⟨g1, g2, by dsimp only at g3 ⊢; omega⟩, g4, g5⟩
theorem drawPick {l : List Int} (hl : Bytes l) : EvP (fun N => spec_DrawPickBackend N l) (fun r => r.1.2.1.size ≤ 101 ∧ r.2.1.length ≤ 13 ∧ Tiny r.2.1) := by
  refine EvP.of (fun N => spec_DrawPickBackend.eq N _) (EvP.andK (spec_l1Cur_short_s (b := 0) hl (by omega) (by omega) (by omega)) ?_)
  rintro u ⟨e0, e1, e2, e3, -⟩
  refine EvP.andK (Q := fun r => r.1.2.1.size ≤ 101 ∧ CuOk 100 r.2.1) ?_ ?_
  · refine EvP.andK (one_s (b := 84) e1 e2 (by omega) (by omega)) ?_
    rintro v ⟨f1, f2, f3, -⟩
    refine EvP.sel (fun _ => ?_) (fun _ => EvP.some ⟨by dsimp only; omega, f1, f2, by dsimp only; omega⟩)
    refine EvP.andK (pick_s (b := 86) (n := 2) (m := 1) f1 f2 (by omega) (by omega) (by omega) (by omega)) ?_
    rintro w ⟨⟨p4, p5, p6, p7⟩, g1, g2, g3, -⟩
    rw [i64w (n := 100 + w.1.1) (by omega) (by omega)]
    refine EvP.chk (and_i (by simp; omega) (and_i (smallI_i (by omega) (by omega)) (by simp))) (EvP.some ⟨?_, g1, g2, by dsimp only; omega⟩)
    dsimp only
    rw [strL_size, List.length_replicate]
    omega
  · rintro ⟨⟨⟨⟩, k, ⟨⟩⟩, ⟨l', a', s', ⟨⟩⟩, ⟨⟩⟩ ⟨h1, f1, f2, f3⟩
    dsimp only at h1 f1 f2 f3 ⊢
    refine EvP.andK (live_s (b := 100) f1 f2 f3 (by omega)) ?_
    rintro v ⟨-, g1, g2⟩
    exact EvP.some ⟨h1, g1, g2⟩
end Go.Proofs.YthkjjombaoffcaaGreatDoor.CFnRendezvous
