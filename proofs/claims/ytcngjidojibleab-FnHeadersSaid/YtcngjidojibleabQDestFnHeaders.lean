/- Where a header's bytes go is told by their beginning. -/
import Derived.Test.YtcngjidojibleabQHeadPutFnHeaders
import Derived.Test.YtcngjidojibleabQCurImplFnHeaders
set_option linter.unusedVariables false
set_option linter.unusedSimpArgs false
namespace Go.Proofs.Ytcngjidojibleab.CFnHeaders
open Go Go.Proofs Go.Proofs.YtcngjidojibleabPM Go.Proofs.Ytcngjidojibleab.Q Go.Proofs.Ytcngjidojibleab.GFnHeaders

theorem hb_long {f b v : Int} {d c t p : ByteArray} {l : List Int} (g : GoodH f b v d c t p l) (h5 : f ≠ 5) : ∃ (q w : Int) (X : ByteArray), hbOf f b v d c t p l = be 1 q ++ (be 4 w ++ (idb d ++ X)) ∧ 128 ≤ q ∧ q ≤ 255 := by
  obtain ⟨g1, g2, ⟨g3, g3'⟩, g4, g5⟩ := g.1
  unfold hbOf
  rw [if_neg h5]
  by_cases h4 : f = 4
  · rw [if_pos h4]
    exact ⟨_, _, _, rfl, by omega, by omega⟩
  · rw [if_neg h4]
    have := form_of g h5 h4
    exact ⟨_, _, _, rfl, by omega, by omega⟩
theorem take_gives {n : Nat} (s x l : ByteArray) (h : tk n s = some (x, l)) : EvP (fun N => impl_cursor_take N (n : Int) s false) (· = ((x, ()), ((l, (false, ())), ()))) := by
  refine (take_impl (by omega) s false).mono ?_
  rintro ⟨⟨y, ⟨⟩⟩, ⟨m, sh, ⟨⟩⟩, ⟨⟩⟩ ⟨h1, _⟩
  obtain ⟨e1, e2⟩ := Run.gives (s := s) h1 (by rw [Int.toNat_natCast]; exact h)
  rw [cst_some] at e2
  obtain ⟨e2, e3⟩ := e2
  dsimp only at e1 e2 e3
  rw [e1, e2, e3]
theorem byte_gives {q : Int} (s l : ByteArray) (h : rdByte s = some (q, l)) : EvP (fun N => impl_cursor_byte N s false) (· = ((q, ()), ((l, (false, ())), ()))) := by
  refine (byte_impl s false).mono ?_
  rintro ⟨⟨y, ⟨⟩⟩, ⟨m, sh, ⟨⟩⟩, ⟨⟩⟩ ⟨h1, _⟩
  obtain ⟨e1, e2⟩ := Run.gives (s := s) h1 h
  rw [cst_some] at e2
  obtain ⟨e2, e3⟩ := e2
  dsimp only at e1 e2 e3
  rw [e1, e2, e3]
theorem DestOf_impl {f b v : Int} {d c t p : ByteArray} {l : List Int} (g : GoodH f b v d c t p l) : EvP (fun N => impl_DestOf N (hbOf f b v d c t p l) (d.size : Int)) (· = ((d, (!(decide (f = 5)), (true, ()))), ())) := by
  obtain ⟨g1, g2, ⟨g3, g3'⟩, g4, g5⟩ := g.1
  have hsh : ∀ (m : ByteArray), EvP (fun N => andK (impl_shortOk N (d.size : Int)) fun u2 => sel (!u2.1.1) (some ((((), (true, ())), ((m, (false, ())), ())) : (Unit × (Bool × Unit)) × ((ByteArray × (Bool × Unit)) × Unit))) (some (((), (false, ())), ((m, (false, ())), ())))) (· = (((), (false, ())), ((m, (false, ())), ()))) := by
    intro m
    refine EvP.to (EvP.of (fun N => impl_shortOk.eq N _) (EvP.to (in_impl _ _ _) (EvP.some rfl))) ?_
    exact EvP.nneg (by omega) (EvP.some rfl)
  refine EvP.of (fun N => impl_DestOf.eq N _ _) ?_
  by_cases h5 : f = 5
  · subst h5
    have e : hbOf 5 b v d c t p l = be 1 (64 + b) ++ (d ++ p) := by unfold hbOf; rw [if_pos rfl]
    rw [e]
    obtain ⟨b1, _⟩ := head_bits (b := 64 + b) (by omega) (by omega)
    refine EvP.to (byte_gives _ _ (rdByte_app (n := 64 + b) (by omega) (by omega) (d ++ p))) (EvP.to (hsh _) (EvP.no rfl ?_))
    refine EvP.to (a := (((d.size : Int), ((), ())), ((d ++ p, (false, ())), ()))) (EvP.nneg (b1.2 (by omega)) (EvP.some rfl)) ?_
    refine EvP.to (take_gives (n := d.size) (d ++ p) d p (tk_app rfl)) (EvP.no rfl (EvP.neg (by dsimp only; omega) (EvP.some ?_)))
    dsimp only
    rw [b1.2 (by omega)]
    simp
  · obtain ⟨q, w, X, e, q1, q2⟩ := hb_long g h5
    rw [e]
    obtain ⟨b1, _⟩ := head_bits (b := q) (by omega) (by omega)
    have b1 : Go.bits .and .i64 q 128 ≠ 0 := fun h => by have := b1.1 h; omega
    refine EvP.to (byte_gives _ _ (rdByte_app (n := q) (by omega) (by omega) _)) (EvP.to (hsh _) (EvP.no rfl ?_))
    refine EvP.to (a := (((d.size : Int), ((), ())), ((d ++ X, (false, ())), ()))) ?_ ?_
    · refine EvP.npos b1 (EvP.to (take_gives (n := 4) _ _ _ (tk_app (be_size 4 w).symm)) ?_)
      refine EvP.to (byte_gives _ (d ++ X) (q := (d.size : Int)) ?_) (EvP.some rfl)
      dsimp only
      unfold idb
      rw [app_assoc]
      exact rdByte_app (by omega) (by omega) _
    refine EvP.to (take_gives (n := d.size) (d ++ X) d X (tk_app rfl)) (EvP.no rfl (EvP.neg (by dsimp only; omega) (EvP.some ?_)))
    dsimp only
    rw [decide_eq_false b1, decide_eq_false h5]
end Go.Proofs.Ytcngjidojibleab.CFnHeaders
