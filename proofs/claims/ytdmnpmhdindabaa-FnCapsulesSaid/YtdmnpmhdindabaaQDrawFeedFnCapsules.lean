/- The pieces that are drawn: how many they are, and how long together. -/
import Derived.Test.YtdmnpmhdindabaaSFnCapsules
import Derived.Test.YtdmnpmhdindabaaQJoin
set_option linter.unusedVariables false
set_option linter.unusedSimpArgs false
namespace Go.Proofs.Ytdmnpmhdindabaa.CFnCapsules
open Go Go.Proofs Go.Proofs.YtdmnpmhdindabaaPM Go.Proofs.Ytdmnpmhdindabaa.Q Go.Proofs.Ytdmnpmhdindabaa.GFnCapsules

theorem J_app (l m : List ByteArray) : J (l ++ m) = J l ++ J m := by
  induction l with
  | nil => show J m = (⟨#[]⟩ : ByteArray) ++ J m; rw [nil_app]
  | cons a l ih => show a ++ J (l ++ m) = (a ++ J l) ++ J m; rw [ih, app_assoc]
theorem J_none (n : Nat) : (J (List.replicate n (⟨#[]⟩ : ByteArray))).size = 0 := by
  induction n with
  | zero => rfl
  | succ n ih =>
    show ((⟨#[]⟩ : ByteArray) ++ J (List.replicate n (⟨#[]⟩ : ByteArray))).size = 0
    rw [ByteArray.size_append, ih]
    rfl
theorem pieces_l {S : Nat} : ∀ (d : Nat) (s : ByteArray) (l : List Int) (a c b : Int) (p : List ByteArray), Bytes l → 0 ≤ a → a ≤ b → b + 2 * d ≤ 4611686018426000000 → p.length + d = 40 → (J p).size + s.size = S → S ≤ 1000000 →
    EvP (fun N => spec_DrawFeedCapsules.l0 N s l a c p) (fun r => (∀ y ∈ r.2.1.1, 0 ≤ y ∧ y ≤ 255) ∧ 0 ≤ r.2.1.2.1 ∧ r.2.1.2.1 ≤ b + 2 * d ∧ r.2.2.1.length ≤ 40 ∧ (J r.2.2.1).size + r.1.2.1.size = S) := by
  intro d
  induction d with
  | zero =>
    intro s l a c b p hl h0 h1 hb hp hs hS
    refine EvP.step (fun N => spec_DrawFeedCapsules.l0.eq N _ _ _ _ _) ?_
    refine EvP.to (a := (((), ((), (false, ()))), ((l, (a, (c, ()))), (p, ())))) (EvP.ite (fun _ => EvP.some (by rw [decide_eq_false (by omega)])) (fun _ => EvP.some rfl)) (EvP.no rfl (EvP.some ⟨hl, h0, by (try dsimp only); omega, by (try dsimp only); omega, hs⟩))
  | succ d ih =>
    intro s l a c b p hl h0 h1 hb hp hs hS
    refine EvP.step (fun N => spec_DrawFeedCapsules.l0.eq N _ _ _ _ _) ?_
    by_cases ht : 0 < (s.size : Int)
    · refine EvP.to (a := (((), ((), (true, ()))), ((l, (a, (c, ()))), (p, ())))) (EvP.pos ht (EvP.some (by rw [decide_eq_true (by omega)]))) (EvP.yes rfl ?_)
      refine EvP.andK (pick_s (b := b) (m := 39) hl h0 h1 (by omega) (by decide) (by decide)) ?_
      rintro ⟨⟨x, ⟨⟩⟩, ⟨l', a', c', ⟨⟩⟩, ⟨⟩⟩ ⟨⟨p1, p2, -, -⟩, p5, p6, p7, -⟩
      dsimp only at p1 p2 p5 p6 p7
      refine EvP.andK (Q := fun r => ∃ n : Int, 1 ≤ n ∧ n ≤ (s.size : Int) ∧ r = (((), ((), (n, ()))), ((l', (a', (c', ()))), (p, ())))) ?_ ?_
      · dsimp only
        rw [i64w (n := 1 + x) (by omega) (by omega)]
        exact EvP.ite (fun h => EvP.some ⟨_, by omega, by omega, rfl⟩) (fun h => EvP.some ⟨_, by omega, by omega, rfl⟩)
      · rintro _ ⟨n, n1, n2, rfl⟩
        dsimp only
        refine EvP.chk2 (by omega) (by omega) (EvP.chk1 (show _ < (68719476736 : Nat) by omega) (EvP.chk3 (by omega) (by omega) (Int.le_refl _) ?_))
        rw [Int.toNat_natCast]
        have hx := ih (s.extract n.toNat s.size) l' a' c' (b + 2) (p ++ [s.extract 0 n.toNat]) p5 p6 p7 (by omega) (by rw [List.length_append, List.length_singleton]; omega) (by rw [J_snoc, ByteArray.size_append, extract_size (Nat.le_refl _), extract_size (by omega)]; omega) hS
        exact hx.mono fun r h => ⟨h.1, h.2.1, by have := h.2.2.1; omega, h.2.2.2⟩
    · exact EvP.to (a := (((), ((), (false, ()))), ((l, (a, (c, ()))), (p, ())))) (EvP.neg ht (EvP.some rfl)) (EvP.no rfl (EvP.some ⟨hl, h0, by (try dsimp only); omega, by (try dsimp only); omega, hs⟩))
theorem DrawFeed_s {code : List Int} (h : ∀ y ∈ code, 0 ≤ y ∧ y ≤ 255) : EvP (fun N => spec_DrawFeedCapsules N code) (fun r => r.2.1.length ≤ 101 ∧ (J r.2.1).size ≤ 6729) := by
  refine EvP.of (fun N => spec_DrawFeedCapsules.eq N _) (EvP.andK (spec_DrawReadCapsules_s h) ?_)
  intro u hu
  have hu1 := hu.1
  refine EvP.andK (pieces_l (S := u.1.1.size) 40 u.1.1 code 0 0 0 [] h (by omega) (by omega) (by omega) rfl (by show (⟨#[]⟩ : ByteArray).size + _ = _; exact Nat.zero_add _) (by omega)) ?_
  rintro ⟨⟨⟨⟩, s, ⟨⟩, ⟨⟩⟩, ⟨l', a', c', ⟨⟩⟩, p, ⟨⟩⟩ ⟨q1, q2, q3, q4, q5⟩
  dsimp only at q1 q2 q3 q4 q5
  refine EvP.chk1 (show _ < (68719476736 : Nat) by (try dsimp only); omega) ?_
  refine EvP.andK (one_s (b := 80) q1 q2 (by (try dsimp only); omega) (by omega)) ?_
  intro r _
  have e1 : (p ++ [s]).length = p.length + 1 := by rw [List.length_append, List.length_singleton]
  have e2 : (J (p ++ [s])).size = (J p).size + s.size := by rw [J_snoc, ByteArray.size_append]
  refine EvP.sel (fun _ => ?_) (fun _ => EvP.some ⟨by (try dsimp only); omega, by (try dsimp only); omega⟩)
  refine EvP.chk1 (show _ < (68719476736 : Nat) by rw [List.length_replicate]; (try dsimp only); omega) (EvP.some ⟨?_, ?_⟩)
  · show ((p ++ [s]) ++ List.replicate 60 (⟨#[]⟩ : ByteArray)).length ≤ 101
    rw [List.length_append, List.length_replicate]; omega
  · show (J ((p ++ [s]) ++ List.replicate 60 (⟨#[]⟩ : ByteArray))).size ≤ 6729
    rw [J_app, ByteArray.size_append, J_none]; omega
end Go.Proofs.Ytdmnpmhdindabaa.CFnCapsules
