/- From a law's arguments to what is reckoned, and back. -/
import Derived.Test.YtcngjidojibleaaPmCall
set_option linter.unusedVariables false
set_option linter.unusedSectionVars false
set_option linter.unusedSimpArgs false
namespace Go.Proofs.YtcngjidojibleaaPM
open Go Go.RowKit

/-- Nobody else. -/
abbrev alone : Foreign := ⟨fun _ => False⟩

theorem st0 (W : World) : @St alone W.heap.size [] [] W :=
  @St.mk alone _ _ _ _ (Nat.le_refl _) rfl (fun i j b h => by simp at h) (fun i b h => by simp at h) (fun b h => h.elim) (fun k p o h => by simp at h)

/-- An argument's row. -/
def RowIn (k : IntKind) (w : World) (a : Option Addr) (len cap : Nat) (zs : List Int) : Prop :=
  (a = none ∧ len = 0 ∧ cap = 0 ∧ zs = []) ∨
  ∃ x, a = some x ∧ len ≤ cap ∧ zs.length = cap ∧ (∀ i, i < zs.length → w.cell? (x.add i) = some (.int k (zs.getD i 0)))

theorem row_vr {k : IntKind} {W : World} {a : Option Addr} {len cap : Nat} {zs : List Int} (h : RowIn k W a len cap zs) : @VR alone [] [] W (.rows false (.int k) (zs.take len)) (.slice a len cap) := by
  show ∃ a' cap', _
  rcases h with ⟨rfl, rfl, rfl, rfl⟩ | ⟨x, rfl, hl, hz, hc⟩
  · exact ⟨none, 0, by simp, by simp, by simp, fun i hi => by simp at hi⟩
  · have e : (zs.take len).length = len := by simp; omega
    refine ⟨some x, cap, by rw [e], by rw [e]; exact hl, by simp, fun i hi => ?_⟩
    rw [e] at hi
    obtain ⟨b, o, sp⟩ := x
    have hsp : sp = none := by
      have := hc 0 (by omega)
      cases sp with
      | none => rfl
      | some q =>
        simp only [World.cell?, Addr.add, if_true] at this
        split at this <;> simp at this
    subst hsp
    have hci := hc i (by omega)
    have hadd : ∀ n, Addr.add ⟨b, o, none⟩ n = ⟨b, o + n, none⟩ := by
      intro n
      unfold Addr.add
      split
      · rename_i h0; rw [h0, Nat.add_zero]
      · rfl
    rw [hadd] at hci
    refine ⟨b, o, [.int k (zs.getD i 0)], rfl, ?_, rfl, fun j hj => ?_, ?_⟩
    · refine @And.intro _ _ ?_ ⟨by simp, fun h => h.elim⟩
      apply Classical.byContradiction
      intro hn
      have : W.heap[b]? = none := by simp; omega
      simp [World.cell?, this] at hci
    · have hj : j = 0 := by simp only [Sh.n] at hj; omega
      subst hj
      simpa [Sh.n] using hci
    · show [Value.int k (zs.getD i 0)] = [Value.int k _]
      congr 2
      simp [List.getElem_take, List.getD_eq_getElem?_getD, List.getElem?_eq_getElem (show i < zs.length by omega)]

/-- A function that keeps to itself. -/
theorem law_of {P : Program} {g : FuncId} {ak : List AK} {rk : List AK} {qk : List PK} {a : adens ak} {u : adens rk × pdens qk} {W : World} {vals : List Value} {y : Value}
    (h : ∀ φ : Foreign, @FnOkW φ P g (encAs locI ak a) (encPs locI 0 [] ()) (packRes (encAs (resI qk) rk u.1)) (encPs (resI qk) 0 qk u.2))
    (hv : @VRs alone [] [] W (encAs locI ak a) vals) (hy : packRes (encAs (resI qk) rk u.1) = .v y) :
    Calls P g vals.toArray W fun e W' => e = .returned y ∧ Below W.heap.size W W' := by
  letI := alone
  refine Calls.mono (@h alone W.heap.size [] W vals (st0 W) hv) fun e W' he => ?_
  obtain ⟨pb', z, rfl, hs, ew, hr⟩ := he
  rw [hy] at hr
  have hr : z = y := hr
  refine ⟨by rw [hr], ew.os, ew.tape, ew.output, ew.size, fun k hk => ?_⟩
  exact ((@ExtN.keeps alone _ _ _ _ _ _ _ ew).1 k (@And.intro _ _ hk ⟨by simp, fun h => h.elim⟩)).2

end Go.Proofs.YtcngjidojibleaaPM
