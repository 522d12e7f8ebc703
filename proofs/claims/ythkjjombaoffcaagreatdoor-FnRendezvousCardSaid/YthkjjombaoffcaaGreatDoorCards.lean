/-
  DERIVED. GIVEN WITH THE SEED: THE CARDS: each row of YthkjjombaoffcaaGreatDoorRows.lean that lists a variable, with what it lists TIED to the program's text (the seventh form; the later family's looks); each row that meets fmt, with fmt's text TOLD by the authors' own Lean function (tested against real Go, not proved from fmt's source: count such statements apart). THE CARD IS WHAT COUNTS. Prove the row's statement (the work); the ties are given (YthkjjombaoffcaaGreatDoorTie.lean); close each card by the builder's one call (the guide's Derived/Test/ToyasCard.lean, 'card_holds'). Laid BY PROGRAM, IN A SANDBOX (cutbox-door.mjs). By AI agents, Wed Nov 11 2026. No macro, syntax, notation, axiom, sorry.
-/
import Derived.Test.YthkjjombaoffcaaGreatDoorRows
import GoSem.ClaimSeven
namespace Go.Proofs.YthkjjombaoffcaaGreatDoor
namespace Rows

/-- THE TIED CARD OF 'laws.FnRanked'. -/
def fnRankedCard : Claim7 := { stood := { row := fnRankedRow, standIns := [], harness := (true, "ec1bd4188bf67324632113450b5ae8cb6a55612be3f4329f6d22ceeeb8e072ba"), looks := false }, kinds := [], alts := [], laidByText := true, laidKinds := [.data, .pinned], laidTests := true, laidLooks := .later }
def FnRankedCardSaid : Prop := Claim7.holds Tryz.pinned (.plain (OpenSpec.ofChange fnRankedSpec)) fnRankedCard

/-- THE TIED CARD OF 'laws.FnRendezvous'. -/
def fnRendezvousCard : Claim7 := { stood := { row := fnRendezvousRow, standIns := [], harness := (true, "ec1bd4188bf67324632113450b5ae8cb6a55612be3f4329f6d22ceeeb8e072ba"), looks := false }, kinds := [], alts := [], laidByText := true, laidKinds := [.data, .pinned], laidTests := true, laidLooks := .later }
def FnRendezvousCardSaid : Prop := Claim7.holds Tryz.pinned (.plain (OpenSpec.ofChange fnRendezvousSpec)) fnRendezvousCard

/-- THE SECOND FORM's CARD OF 'laws.FnRanked'. -/
def fnRankedUptoCard : Claim7 := { stood := { row := fnRankedUptoRow, standIns := [], harness := (true, "ec1bd4188bf67324632113450b5ae8cb6a55612be3f4329f6d22ceeeb8e072ba"), looks := false }, kinds := [], alts := [], laidByText := true, laidKinds := [.data, .pinned], laidTests := true, laidLooks := .later }
def FnRankedUptoCardSaid : Prop := Claim7.holds Tryz.pinned (.plain (OpenSpec.upto fnRankedSpec)) fnRankedUptoCard

/-- THE SECOND FORM's CARD OF 'laws.FnRendezvous'. -/
def fnRendezvousUptoCard : Claim7 := { stood := { row := fnRendezvousUptoRow, standIns := [], harness := (true, "ec1bd4188bf67324632113450b5ae8cb6a55612be3f4329f6d22ceeeb8e072ba"), looks := false }, kinds := [], alts := [], laidByText := true, laidKinds := [.data, .pinned], laidTests := true, laidLooks := .later }
def FnRendezvousUptoCardSaid : Prop := Claim7.holds Tryz.pinned (.plain (OpenSpec.upto fnRendezvousSpec)) fnRendezvousUptoCard
end Rows
end Go.Proofs.YthkjjombaoffcaaGreatDoor
