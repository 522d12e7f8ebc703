/- Ranks of live sets, as both packages give them. -/
import Derived.Test.YthkjjombaoffcaaGreatDoorQRnkSFnRendezvous
set_option linter.unusedVariables false
set_option linter.unusedSimpArgs false
namespace Go.Proofs.YthkjjombaoffcaaGreatDoor.CFnRendezvous
open Go Go.Proofs Go.Proofs.YthkjjombaoffcaaGreatDoorPM Go.Proofs.YthkjjombaoffcaaGreatDoor.Q Go.Proofs.YthkjjombaoffcaaGreatDoor.GFnRendezvous

theorem keyI (k : ByteArray) : EvP (fun N => impl_keyOk N k) (· = ((decide ((k.size : Int) ≤ 100), ()), ())) := EvP.of (fun N => impl_keyOk.eq N _) (EvP.some rfl)
theorem scI (k : ByteArray) (hk : k.size ≤ 1000) : ScI k (sc k) := fun b hb => scoreI b k hb hk
def okR (l : List ByteArray) (k : ByteArray) : Bool := glB l && decide ((k.size : Int) ≤ 100)
theorem okR_len {l : List ByteArray} {k : ByteArray} (h : okR l k = true) : l.length ≤ 12 := by
  have h1 : glB l = true := by simp [okR] at h; exact h.1
  exact ((glB_iff l).1 h1).2.2
theorem PickI {f : ByteArray → Int} {k : ByteArray} (hk : ScI k f) {l : List ByteArray} (hl : l.length ≤ 1000000) (hs : Small l) (h : okR l k = true) {a : ByteArray} {t : List ByteArray} (hf : isort f l = a :: t) :
    EvP (fun N => impl_PickBackend N l k) (· = ((a, (true, ())), ())) := by
  have hlen : l.length = (a :: t).length := by rw [← hf, isort_len]
  have h1 : glB l = true ∧ (k.size : Int) ≤ 100 := by simpa [okR] using h
  refine EvP.of (fun N => impl_PickBackend.eq N _ _) (EvP.to (a := ((false, ()), ())) (EvP.to (goodI l hl hs) ?_) (EvP.no rfl ?_))
  · dsimp only
    rw [h1.1]
    refine EvP.no rfl (EvP.neg (by rw [hlen]; simp; omega) (EvP.to (keyI k) (EvP.some ?_)))
    simp [h1.2]
  · refine EvP.to (rankedI hk l (okR_len h) hs) (EvP.chk1 (by (try dsimp only); rw [hf]; simp) (EvP.some ?_))
    rw [hf]
    rfl

def ScS (k : ByteArray) (f : ByteArray → Int) : Prop := ∀ b : ByteArray, b.size ≤ 1000 → EvP (fun N => spec_l9Score_2 N b k K64 H8) (· = ((f b, ()), ((K64, (H8, ())), ())))
theorem scS (k : ByteArray) (hk : k.size ≤ 1000) : ScS k (sc k) := fun b hb => scoreS b k hb hk
theorem cutA {α : Type} (A B : List α) {n : Nat} (h : n = A.length) : ((A ++ B).drop 0).take (Int.toNat (n : Int) - 0) = A := by
  subst h
  rw [Int.toNat_natCast, List.drop_zero, Nat.sub_zero, List.take_left']
  rfl
theorem cutB {α : Type} (A B : List α) {n : Nat} (h : n = A.length) : ((A ++ B).drop (Int.toNat (n : Int))).take (Int.toNat ((A ++ B).length : Int) - Int.toNat (n : Int)) = B := by
  subst h
  rw [Int.toNat_natCast, Int.toNat_natCast, List.drop_left, List.take_of_length_le (by simp)]
theorem same_l (l : List ByteArray) (hl : l.length ≤ 1000000) : ∀ (d i : Nat), i + d = l.length → EvP (fun N => laws_sameTexts.l0 N l l (l.length : Int) (i : Int)) (· = .inr ((), ()))
  | 0, i, h => EvP.step (fun N => laws_sameTexts.l0.eq N _ _ _ _) (EvP.neg (by omega) (EvP.some rfl))
  | d + 1, i, h => by
    have w1 : IntKind.i64.wrap ((i : Int) + 1) = ((i + 1 : Nat) : Int) := by rw [i64w (by omega) (by omega)]; omega
    refine EvP.step (fun N => laws_sameTexts.l0.eq N _ _ _ _) (EvP.pos (by omega) (EvP.chk2 (by omega) (by omega) (EvP.chk2 (by omega) (by omega) (EvP.nneg rfl ?_))))
    rw [w1]
    exact same_l l hl d (i + 1) (by omega)
theorem same_ok (l : List ByteArray) (hl : l.length ≤ 1000000) : EvP (fun N => laws_sameTexts N l l) (· = ((true, ()), ())) :=
  EvP.of (fun N => laws_sameTexts.eq N _ _) (EvP.nneg rfl (EvP.to (same_l l hl l.length 0 (by omega)) (EvP.inr (EvP.some rfl))))
end Go.Proofs.YthkjjombaoffcaaGreatDoor.CFnRendezvous
