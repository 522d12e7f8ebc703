/- The program's cursor: what its steps read. -/
import Derived.Test.YtbfkfhadcmpndaaQTakeNumFnFrames
set_option linter.unusedVariables false
set_option linter.unusedSimpArgs false
namespace Go.Proofs.Ytbfkfhadcmpndaa.CFnFrames
open Go Go.Proofs Go.Proofs.YtbfkfhadcmpndaaPM Go.Proofs.Ytbfkfhadcmpndaa.Q Go.Proofs.Ytbfkfhadcmpndaa.GFnFrames

theorem byte_impl (l : ByteArray) (sh : Bool) : EvP (fun N => impl_cursor_byte N l sh) (fun r => Run rdByte (cst l sh) r.1.1 (cst r.2.1.1 r.2.1.2.1) ∧ 0 ≤ r.1.1 ∧ r.1.1 ≤ 255 ∧ r.2.1.1.size ≤ l.size) := by
  refine EvP.of (fun N => impl_cursor_byte.eq N _ _) (EvP.andK (take_impl (by decide) l sh) ?_)
  rintro u ⟨h1, h2, h3⟩
  refine EvP.to (number_ok _ (by omega)) (EvP.some ?_)
  have hv := vof_range u.1.1
  have hv2 : vof u.1.1 ≤ 255 := by
    have : u.1.1.size = 0 ∨ u.1.1.size = 1 := by omega
    rcases this with e | e <;> rw [e] at hv <;> have := hv.2 <;> omega
  dsimp only
  rw [i64w (by omega) (by omega)]
  exact ⟨Run.map h1 fun _ => rfl, hv.1, hv2, h3⟩
theorem word_impl (l : ByteArray) (sh : Bool) : EvP (fun N => impl_cursor_take N 4 l sh) (fun r => (Run rdWord (cst l sh) (vof r.1.1) (cst r.2.1.1 r.2.1.2.1) ∧ 0 ≤ vof r.1.1 ∧ vof r.1.1 ≤ 4294967295) ∧ r.1.1.size ≤ 8 ∧ r.2.1.1.size ≤ l.size) := by
  refine (take_impl (n := 4) (by decide) l sh).mono ?_
  rintro u ⟨h1, h2, h3⟩
  have h2 : u.1.1.size ≤ 4 := h2
  have hv := vof_range u.1.1
  have hv2 : vof u.1.1 ≤ 4294967295 := by
    have : u.1.1.size = 0 ∨ u.1.1.size = 1 ∨ u.1.1.size = 2 ∨ u.1.1.size = 3 ∨ u.1.1.size = 4 := by omega
    rcases this with e | e | e | e | e <;> rw [e] at hv <;> have := hv.2 <;> omega
  exact ⟨⟨Run.map h1 fun _ => rfl, hv.1, hv2⟩, by omega, h3⟩
theorem rest_impl (l : ByteArray) (sh : Bool) : EvP (fun N => impl_cursor_rest N l sh) (fun r => Run rdRest (cst l sh) r.1.1 (cst r.2.1.1 r.2.1.2.1)) := by
  refine EvP.of (fun N => impl_cursor_rest.eq N _ _) (EvP.andK (take_impl (n := (l.size : Int)) (by omega) l sh) ?_)
  rintro u ⟨h1, _, _⟩
  refine EvP.some ?_
  dsimp only
  rw [Int.toNat_natCast] at h1
  have e : tk l.size l = some (l, ⟨#[]⟩) := by
    have := tk_app (s := l) (t := ⟨#[]⟩) rfl
    rwa [app_nil] at this
  cases sh with
  | true => exact h1
  | false =>
    have h2 := Run.gives (s := l) h1 e
    exact h2
theorem counted_impl (l : ByteArray) (sh : Bool) : EvP (fun N => impl_cursor_counted N l sh) (fun r => Run rdCounted (cst l sh) r.1.1 (cst r.2.1.1 r.2.1.2.1) ∧ r.2.1.1.size ≤ l.size) := by
  refine EvP.of (fun N => impl_cursor_counted.eq N _ _) (EvP.andK (number_impl l sh) ?_)
  rintro u ⟨h1, h2, h3, h4⟩
  refine EvP.andK (take_impl h2 _ _) ?_
  rintro v ⟨h5, h6, h7⟩
  have h8 := Run.bind (q := fun n : Int => tk n.toNat) h1 h5
  exact EvP.some ⟨h8, by dsimp only; omega⟩
end Go.Proofs.Ytbfkfhadcmpndaa.CFnFrames
