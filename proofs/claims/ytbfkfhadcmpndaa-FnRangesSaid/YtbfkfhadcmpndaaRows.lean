/-
  No cell of these rows narrows 'for every input' (looked for: loops, veiled, ifaces, maps, wideKeys, modest, calm, conditions, laid).
  DERIVED. THE GIVEN ROWS OF THIS SEAT. 6 by the template 'for every input the law returns true; each argument reads behind the call as it read before'; 0 by the template 'total and deterministic' (their statements: YtbfkfhadcmpndaaTotals.lean).
  GIVEN WITH THE SEED: the statements are not yours to turn. If you find one false, say at which input.
  Laid BY PROGRAM, IN A SANDBOX (cutbox-rows.mjs): the forced cells as the released guide's own fill.sh prints them over the translation 4f65a651ae65de2a… (all of the seat's roots in one cut). By AI agents, Wed Nov 11 2026. No macro, syntax, notation, axiom, sorry.
-/
import Derived.Test.YtbfkfhadcmpndaaChecked
import GoSem.Claim
import GoSem.ClaimJoined
import GoSem.ClaimMapViews
import Derived.JoinedTies
import Derived.KernelRfl
namespace Go.Proofs.Ytbfkfhadcmpndaa
/- THE CELL 'sum', in the pinned program and in every row, IS THE sha256 OF THE DUMP (.gsa) THAT YtbfkfhadcmpndaaProg.lean LOADS. Nothing in Lean hashes anything: it is a label: what it is worth is what the hold of that sum in a sandbox is worth. -/
noncomputable def Try.pinned : Pinned := { name := "ytbfkfhadcmpndaa", sum := "4f65a651ae65de2a9a67a66dc8f5c88762a25e9e8802056864dc931ef64c5809", checked := Try.checked }
namespace Rows
def none {H : Type} : Left H := { results := [], args := [] }

/-- 'laws.FnFrames': WHATEVER THE INPUT: true; the input reads as it did. -/
def fnFramesSpec : ChangeSpec := { name := "fnFrames", fn := fun _ => fun
  | [d1, d2] => { results := [.lit (.bool true)], args := [d1, d2] }
  | _ => none }
def fnFramesRow : OpenClaim := { program := "ytbfkfhadcmpndaa", sum := "4f65a651ae65de2a9a67a66dc8f5c88762a25e9e8802056864dc931ef64c5809", func := "loop.example/g00206/laws.FnFrames", spec := "fnFrames", unfollowed := true, recurses := true, apart := false }
def FnFramesSaid : Prop := fnFramesRow.holds Try.pinned (OpenSpec.ofChange fnFramesSpec)

/-- ITS FALSE NEIGHBOUR: 'it returns false'. Refute it at one input. -/
def fnFramesWrong : ChangeSpec := { name := "fnFrames", fn := fun _ => fun
  | [d1, d2] => { results := [.lit (.bool false)], args := [d1, d2] }
  | _ => none }
def FnFramesWrongFalsely : Prop := fnFramesRow.holds Try.pinned (OpenSpec.ofChange fnFramesWrong)

/-- 'laws.FnPieces': WHATEVER THE INPUT: true; the input reads as it did. -/
def fnPiecesSpec : ChangeSpec := { name := "fnPieces", fn := fun _ => fun
  | [d] => { results := [.lit (.bool true)], args := [d] }
  | _ => none }
def fnPiecesRow : OpenClaim := { program := "ytbfkfhadcmpndaa", sum := "4f65a651ae65de2a9a67a66dc8f5c88762a25e9e8802056864dc931ef64c5809", func := "loop.example/g00206/laws.FnPieces", spec := "fnPieces", apart := false }
def FnPiecesSaid : Prop := fnPiecesRow.holds Try.pinned (OpenSpec.ofChange fnPiecesSpec)

/-- ITS FALSE NEIGHBOUR: 'it returns false'. Refute it at one input. -/
def fnPiecesWrong : ChangeSpec := { name := "fnPieces", fn := fun _ => fun
  | [d] => { results := [.lit (.bool false)], args := [d] }
  | _ => none }
def FnPiecesWrongFalsely : Prop := fnPiecesRow.holds Try.pinned (OpenSpec.ofChange fnPiecesWrong)

/-- 'laws.FnAcked': WHATEVER THE INPUT: true; the input reads as it did. -/
def fnAckedSpec : ChangeSpec := { name := "fnAcked", fn := fun _ => fun
  | [d] => { results := [.lit (.bool true)], args := [d] }
  | _ => none }
def fnAckedRow : OpenClaim := { program := "ytbfkfhadcmpndaa", sum := "4f65a651ae65de2a9a67a66dc8f5c88762a25e9e8802056864dc931ef64c5809", func := "loop.example/g00206/laws.FnAcked", spec := "fnAcked", unfollowed := true, recurses := true, apart := false }
def FnAckedSaid : Prop := fnAckedRow.holds Try.pinned (OpenSpec.ofChange fnAckedSpec)

/-- ITS FALSE NEIGHBOUR: 'it returns false'. Refute it at one input. -/
def fnAckedWrong : ChangeSpec := { name := "fnAcked", fn := fun _ => fun
  | [d] => { results := [.lit (.bool false)], args := [d] }
  | _ => none }
def FnAckedWrongFalsely : Prop := fnAckedRow.holds Try.pinned (OpenSpec.ofChange fnAckedWrong)

/-- 'laws.FnRanges': WHATEVER THE INPUT: true; the input reads as it did. -/
def fnRangesSpec : ChangeSpec := { name := "fnRanges", fn := fun _ => fun
  | [d1, d2] => { results := [.lit (.bool true)], args := [d1, d2] }
  | _ => none }
def fnRangesRow : OpenClaim := { program := "ytbfkfhadcmpndaa", sum := "4f65a651ae65de2a9a67a66dc8f5c88762a25e9e8802056864dc931ef64c5809", func := "loop.example/g00206/laws.FnRanges", spec := "fnRanges", unfollowed := true, recurses := true, apart := false }
def FnRangesSaid : Prop := fnRangesRow.holds Try.pinned (OpenSpec.ofChange fnRangesSpec)

/-- ITS FALSE NEIGHBOUR: 'it returns false'. Refute it at one input. -/
def fnRangesWrong : ChangeSpec := { name := "fnRanges", fn := fun _ => fun
  | [d1, d2] => { results := [.lit (.bool false)], args := [d1, d2] }
  | _ => none }
def FnRangesWrongFalsely : Prop := fnRangesRow.holds Try.pinned (OpenSpec.ofChange fnRangesWrong)

/-- 'laws.FnBounded': WHATEVER THE INPUT: true; the input reads as it did. -/
def fnBoundedSpec : ChangeSpec := { name := "fnBounded", fn := fun _ => fun
  | [d1, d2] => { results := [.lit (.bool true)], args := [d1, d2] }
  | _ => none }
def fnBoundedRow : OpenClaim := { program := "ytbfkfhadcmpndaa", sum := "4f65a651ae65de2a9a67a66dc8f5c88762a25e9e8802056864dc931ef64c5809", func := "loop.example/g00206/laws.FnBounded", spec := "fnBounded", inPlace := ["slices.overlaps[loop.example/g00206/impl.Piece]"], unfollowed := true, recurses := true, apart := false }
def FnBoundedSaid : Prop := fnBoundedRow.holds Try.pinned (OpenSpec.ofChange fnBoundedSpec)

/-- ITS FALSE NEIGHBOUR: 'it returns false'. Refute it at one input. -/
def fnBoundedWrong : ChangeSpec := { name := "fnBounded", fn := fun _ => fun
  | [d1, d2] => { results := [.lit (.bool false)], args := [d1, d2] }
  | _ => none }
def FnBoundedWrongFalsely : Prop := fnBoundedRow.holds Try.pinned (OpenSpec.ofChange fnBoundedWrong)

/-- 'laws.FnOrdered': WHATEVER THE INPUT: true; the input reads as it did. -/
def fnOrderedSpec : ChangeSpec := { name := "fnOrdered", fn := fun _ => fun
  | [d] => { results := [.lit (.bool true)], args := [d] }
  | _ => none }
def fnOrderedRow : OpenClaim := { program := "ytbfkfhadcmpndaa", sum := "4f65a651ae65de2a9a67a66dc8f5c88762a25e9e8802056864dc931ef64c5809", func := "loop.example/g00206/laws.FnOrdered", spec := "fnOrdered", inPlace := ["slices.overlaps[loop.example/g00206/impl.Piece]"], unfollowed := true, recurses := true, apart := false }
def FnOrderedSaid : Prop := fnOrderedRow.holds Try.pinned (OpenSpec.ofChange fnOrderedSpec)

/-- ITS FALSE NEIGHBOUR: 'it returns false'. Refute it at one input. -/
def fnOrderedWrong : ChangeSpec := { name := "fnOrdered", fn := fun _ => fun
  | [d] => { results := [.lit (.bool false)], args := [d] }
  | _ => none }
def FnOrderedWrongFalsely : Prop := fnOrderedRow.holds Try.pinned (OpenSpec.ofChange fnOrderedWrong)

/- THE SECOND FORM. 'bulk': how many values and letters a reading holds, each counted each time it is reached (what is shared counts as often as it is met; a slice's spare places count too). A statement '..UptoSaid' is the law's where the arguments, and the package variables that the reading takes, are together of bulk at most 1048576: NARROWER than '..Said'. Prove '..Said' where nothing that the law and all that it calls make is longer than what came in: it says more and counts as full. Else prove '..UptoSaid'. A law counts once. -/
mutual
def uptoBulk {H : Type} : DataW H → Nat
  | .lit (.string bytes) => bytes.length + 1
  | .lit _ => 1
  | .nil => 1
  | .ptr d => uptoBulk d + 1
  | .slice elems spare => uptoBulkAll elems + uptoBulkAll spare + 1
  | .agg parts => uptoBulkAll parts + 1
  | .iface _ d => uptoBulk d + 1
  | .map entries => uptoBulkEntries entries + 1
  | .held _ => 1
def uptoBulkAll {H : Type} : List (DataW H) → Nat
  | [] => 0
  | d :: r => uptoBulk d + uptoBulkAll r
def uptoBulkEntries {H : Type} : List (Lit × DataW H) → Nat
  | [] => 0
  | x :: r => uptoBulkEntry x + uptoBulkEntries r
def uptoBulkEntry {H : Type} : Lit × DataW H → Nat
  | (.string bytes, d) => bytes.length + uptoBulk d + 1
  | (_, d) => uptoBulk d + 1
 end
def uptoSmall : (H : Type) → List (DataW H) → Bool := fun _ ds => decide (uptoBulkAll ds ≤ 1048576)
def OpenSpec.upto (s : _root_.Go.ChangeSpec) : _root_.Go.OpenSpec := { _root_.Go.OpenSpec.ofChange s with cond := some uptoSmall }

/-- 'laws.FnFrames', WHERE WHAT IT READS IS OF BULK AT MOST 1048576: true; the input reads as it did. -/
def fnFramesUptoRow : OpenClaim := { program := "ytbfkfhadcmpndaa", sum := "4f65a651ae65de2a9a67a66dc8f5c88762a25e9e8802056864dc931ef64c5809", func := "loop.example/g00206/laws.FnFrames", spec := "fnFrames", unfollowed := true, recurses := true, apart := false, narrowed := true }
def FnFramesUptoSaid : Prop := fnFramesUptoRow.holds Try.pinned (OpenSpec.upto fnFramesSpec)

/-- 'laws.FnPieces', WHERE WHAT IT READS IS OF BULK AT MOST 1048576: true; the input reads as it did. -/
def fnPiecesUptoRow : OpenClaim := { program := "ytbfkfhadcmpndaa", sum := "4f65a651ae65de2a9a67a66dc8f5c88762a25e9e8802056864dc931ef64c5809", func := "loop.example/g00206/laws.FnPieces", spec := "fnPieces", apart := false, narrowed := true }
def FnPiecesUptoSaid : Prop := fnPiecesUptoRow.holds Try.pinned (OpenSpec.upto fnPiecesSpec)

/-- 'laws.FnAcked', WHERE WHAT IT READS IS OF BULK AT MOST 1048576: true; the input reads as it did. -/
def fnAckedUptoRow : OpenClaim := { program := "ytbfkfhadcmpndaa", sum := "4f65a651ae65de2a9a67a66dc8f5c88762a25e9e8802056864dc931ef64c5809", func := "loop.example/g00206/laws.FnAcked", spec := "fnAcked", unfollowed := true, recurses := true, apart := false, narrowed := true }
def FnAckedUptoSaid : Prop := fnAckedUptoRow.holds Try.pinned (OpenSpec.upto fnAckedSpec)

/-- 'laws.FnRanges', WHERE WHAT IT READS IS OF BULK AT MOST 1048576: true; the input reads as it did. -/
def fnRangesUptoRow : OpenClaim := { program := "ytbfkfhadcmpndaa", sum := "4f65a651ae65de2a9a67a66dc8f5c88762a25e9e8802056864dc931ef64c5809", func := "loop.example/g00206/laws.FnRanges", spec := "fnRanges", unfollowed := true, recurses := true, apart := false, narrowed := true }
def FnRangesUptoSaid : Prop := fnRangesUptoRow.holds Try.pinned (OpenSpec.upto fnRangesSpec)

/-- 'laws.FnBounded', WHERE WHAT IT READS IS OF BULK AT MOST 1048576: true; the input reads as it did. -/
def fnBoundedUptoRow : OpenClaim := { program := "ytbfkfhadcmpndaa", sum := "4f65a651ae65de2a9a67a66dc8f5c88762a25e9e8802056864dc931ef64c5809", func := "loop.example/g00206/laws.FnBounded", spec := "fnBounded", inPlace := ["slices.overlaps[loop.example/g00206/impl.Piece]"], unfollowed := true, recurses := true, apart := false, narrowed := true }
def FnBoundedUptoSaid : Prop := fnBoundedUptoRow.holds Try.pinned (OpenSpec.upto fnBoundedSpec)

/-- 'laws.FnOrdered', WHERE WHAT IT READS IS OF BULK AT MOST 1048576: true; the input reads as it did. -/
def fnOrderedUptoRow : OpenClaim := { program := "ytbfkfhadcmpndaa", sum := "4f65a651ae65de2a9a67a66dc8f5c88762a25e9e8802056864dc931ef64c5809", func := "loop.example/g00206/laws.FnOrdered", spec := "fnOrdered", inPlace := ["slices.overlaps[loop.example/g00206/impl.Piece]"], unfollowed := true, recurses := true, apart := false, narrowed := true }
def FnOrderedUptoSaid : Prop := fnOrderedUptoRow.holds Try.pinned (OpenSpec.upto fnOrderedSpec)

end Rows
end Go.Proofs.Ytbfkfhadcmpndaa
