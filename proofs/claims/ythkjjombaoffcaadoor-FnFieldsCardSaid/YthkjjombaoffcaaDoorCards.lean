/-
  DERIVED. GIVEN WITH THE SEED: THE CARDS: each row of YthkjjombaoffcaaDoorRows.lean that lists a variable, with what it lists TIED to the program's text (the seventh form; the later family's looks); each row that meets fmt, with fmt's text TOLD by the authors' own Lean function (tested against real Go, not proved from fmt's source: count such statements apart). THE CARD IS WHAT COUNTS. Prove the row's statement (the work); the ties are given (YthkjjombaoffcaaDoorTie.lean); close each card by the builder's one call (the guide's Derived/Test/ToyasCard.lean, 'card_holds'). Laid BY PROGRAM, IN A SANDBOX (cutbox-door.mjs). By AI agents, Wed Nov 11 2026. No macro, syntax, notation, axiom, sorry.
-/
import Derived.Test.YthkjjombaoffcaaDoorRows
import GoSem.ClaimSeven
namespace Go.Proofs.YthkjjombaoffcaaDoor
namespace Rows

/-- THE TIED CARD OF 'laws.FnTargets'. -/
def fnTargetsCard : Claim7 := { stood := { row := fnTargetsRow, standIns := [], harness := (true, "95b59badc627d70b303e192a12d6110415fcdc7452324592603ac305b0dd88d0"), looks := true }, kinds := [], alts := [], laidByText := true, laidKinds := [.data, .data, .data, .sentinel, .sentinel], laidTests := true, laidLooks := .later }
def FnTargetsCardSaid : Prop := Claim7.holds Tryd.pinned (.plain (OpenSpec.ofChange fnTargetsSpec)) fnTargetsCard

/-- THE TIED CARD OF 'laws.FnFields'. -/
def fnFieldsCard : Claim7 := { stood := { row := fnFieldsRow, standIns := [], harness := (true, "95b59badc627d70b303e192a12d6110415fcdc7452324592603ac305b0dd88d0"), looks := true }, kinds := [], alts := [], laidByText := true, laidKinds := [.data, .pinned], laidTests := true, laidLooks := .later }
def FnFieldsCardSaid : Prop := Claim7.holds Tryd.pinned (.plain (OpenSpec.ofChange fnFieldsSpec)) fnFieldsCard

/-- THE SECOND FORM's CARD OF 'laws.FnTargets'. -/
def fnTargetsUptoCard : Claim7 := { stood := { row := fnTargetsUptoRow, standIns := [], harness := (true, "95b59badc627d70b303e192a12d6110415fcdc7452324592603ac305b0dd88d0"), looks := true }, kinds := [], alts := [], laidByText := true, laidKinds := [.data, .data, .data, .sentinel, .sentinel], laidTests := true, laidLooks := .later }
def FnTargetsUptoCardSaid : Prop := Claim7.holds Tryd.pinned (.plain (OpenSpec.upto fnTargetsSpec)) fnTargetsUptoCard

/-- THE SECOND FORM's CARD OF 'laws.FnFields'. -/
def fnFieldsUptoCard : Claim7 := { stood := { row := fnFieldsUptoRow, standIns := [], harness := (true, "95b59badc627d70b303e192a12d6110415fcdc7452324592603ac305b0dd88d0"), looks := true }, kinds := [], alts := [], laidByText := true, laidKinds := [.data, .pinned], laidTests := true, laidLooks := .later }
def FnFieldsUptoCardSaid : Prop := Claim7.holds Tryd.pinned (.plain (OpenSpec.upto fnFieldsSpec)) fnFieldsUptoCard
end Rows
end Go.Proofs.YthkjjombaoffcaaDoor
