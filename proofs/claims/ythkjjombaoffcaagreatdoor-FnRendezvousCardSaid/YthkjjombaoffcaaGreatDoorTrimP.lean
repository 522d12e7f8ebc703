/- strings.Trim at an ASCII list of signs: what it says, by the library's contract. -/
import Derived.Test.YthkjjombaoffcaaGreatDoorPmLaw
import Derived.Lib.SlTrimSet
set_option linter.unusedVariables false
set_option linter.unusedSectionVars false
set_option linter.unusedSimpArgs false
noncomputable section
namespace Go.Proofs.YthkjjombaoffcaaGreatDoorPM
open Go Go.RowKit

def trimL (s cs : ByteArray) : ByteArray := ⟨(Lib.trimS s.data.toList cs.data.toList).toArray⟩
def asciiB (cs : ByteArray) : Bool := cs.data.toList.all fun b => decide (b.toNat < 128)
def trimF (s cs : ByteArray) : Option ((ByteArray × Unit) × Unit) :=
  chk (decide (s.size ≤ 9223372036854775807)) (chk (decide (cs.size < 4294967281)) (chk (asciiB cs) (some ((trimL s cs, ()), ()))))
theorem trimF_eq (s cs : ByteArray) : trimF s cs = chk (decide (s.size ≤ 9223372036854775807)) (chk (decide (cs.size < 4294967281)) (chk (asciiB cs) (some ((trimL s cs, ()), ())))) := rfl
def trimS (g : FuncId) : Say := ⟨false, g, [.one (.sh .str), .one (.sh .str)], [], [.one (.sh .str)], [], fun a s => trimF a.1 a.2.1⟩
theorem sayOk_trim {P : Program} {g : FuncId} (he : Enters P g)
    (h : ∀ (s cs : ByteArray) (w : World), s.size ≤ 9223372036854775807 → cs.size < 4294967281 → (∀ (j : Nat) b, cs.data.toList[j]? = some b → b.toNat < 128) →
      Calls P g #[.string s, .string cs] w fun e w' => e = .returned (.string ⟨(Lib.trimS s.data.toList cs.data.toList).toArray⟩) ∧ Below w.heap.size w w') : SayOk P (trimS g) :=
  ⟨rfl, he, fun a s u hu φ => by
    obtain ⟨x, n, ⟨⟩⟩ := a
    obtain ⟨h0, hv⟩ := chk_some (show trimF x n = some u from hu)
    obtain ⟨h1, hv⟩ := chk_some hv
    obtain ⟨h2, hv⟩ := chk_some hv
    simp only [decide_eq_true_eq] at h0 h1
    injection hv with hv
    subst hv
    intro base pb w vals hs hv
    have hv : VRs [] pb w [.v (.string x), .v (.string n)] vals := hv
    match vals, hv with
    | [a, b], ⟨ha, hb, _⟩ =>
      have ha : a = .string x := ha
      have hb : b = .string n := hb
      subst ha hb
      refine Calls.mono (h x n w h0 h1 fun j b hj => ?_) fun e w' hew => ?_
      · exact of_decide_eq_true (List.all_eq_true.1 h2 b (List.mem_of_getElem? hj))
      · obtain ⟨rfl, hb⟩ := hew
        obtain ⟨k1, k2⟩ := grow_ext (below_grown hb) hs
        exact ⟨pb, _, rfl, k2, k1.weak, rfl⟩⟩
end Go.Proofs.YthkjjombaoffcaaGreatDoorPM
