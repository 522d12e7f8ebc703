/-
  No cell of these rows narrows 'for every input' (looked for: loops, veiled, ifaces, maps, wideKeys, modest, calm, conditions, laid).
  DERIVED. THE GIVEN ROWS OF THIS SEAT. 6 by the template 'for every input the law returns true; each argument reads behind the call as it read before'; 0 by the template 'total and deterministic' (their statements: YtcggngmcaicdpabTotals.lean).
  GIVEN WITH THE SEED: the statements are not yours to turn. If you find one false, say at which input.
  Laid BY PROGRAM, IN A SANDBOX (cutbox-rows.mjs): the forced cells as the released guide's own fill.sh prints them over the translation 4747dadd7fea1d27… (all of the seat's roots in one cut). By AI agents, Wed Nov 11 2026. No macro, syntax, notation, axiom, sorry.
-/
import Derived.Test.YtcggngmcaicdpabChecked
import GoSem.Claim
import GoSem.ClaimJoined
import GoSem.ClaimMapViews
import Derived.JoinedTies
import Derived.KernelRfl
namespace Go.Proofs.Ytcggngmcaicdpab
/- THE CELL 'sum', in the pinned program and in every row, IS THE sha256 OF THE DUMP (.gsa) THAT YtcggngmcaicdpabProg.lean LOADS. Nothing in Lean hashes anything: it is a label: what it is worth is what the hold of that sum in a sandbox is worth. -/
noncomputable def Try.pinned : Pinned := { name := "ytcggngmcaicdpab", sum := "4747dadd7fea1d2772af7fdd4cfed52cf33f4967946f031393187e5e3e293e0d", checked := Try.checked }
namespace Rows
def none {H : Type} : Left H := { results := [], args := [] }

/-- 'laws.FnHex': WHATEVER THE INPUT: true; the input reads as it did. -/
def fnHexSpec : ChangeSpec := { name := "fnHex", fn := fun _ => fun
  | [d1, d2] => { results := [.lit (.bool true)], args := [d1, d2] }
  | _ => none }
def fnHexRow : OpenClaim := { program := "ytcggngmcaicdpab", sum := "4747dadd7fea1d2772af7fdd4cfed52cf33f4967946f031393187e5e3e293e0d", func := "loop.example/g00206/laws.FnHex", spec := "fnHex", inPlace := ["internal/bytealg.IndexByteString"], apart := false }
def FnHexSaid : Prop := fnHexRow.holds Try.pinned (OpenSpec.ofChange fnHexSpec)

/-- ITS FALSE NEIGHBOUR: 'it returns false'. Refute it at one input. -/
def fnHexWrong : ChangeSpec := { name := "fnHex", fn := fun _ => fun
  | [d1, d2] => { results := [.lit (.bool false)], args := [d1, d2] }
  | _ => none }
def FnHexWrongFalsely : Prop := fnHexRow.holds Try.pinned (OpenSpec.ofChange fnHexWrong)

/-- 'laws.FnVarints': WHATEVER THE INPUT: true; the input reads as it did. -/
def fnVarintsSpec : ChangeSpec := { name := "fnVarints", fn := fun _ => fun
  | [d1, d2] => { results := [.lit (.bool true)], args := [d1, d2] }
  | _ => none }
def fnVarintsRow : OpenClaim := { program := "ytcggngmcaicdpab", sum := "4747dadd7fea1d2772af7fdd4cfed52cf33f4967946f031393187e5e3e293e0d", func := "loop.example/g00206/laws.FnVarints", spec := "fnVarints", apart := false }
def FnVarintsSaid : Prop := fnVarintsRow.holds Try.pinned (OpenSpec.ofChange fnVarintsSpec)

/-- ITS FALSE NEIGHBOUR: 'it returns false'. Refute it at one input. -/
def fnVarintsWrong : ChangeSpec := { name := "fnVarints", fn := fun _ => fun
  | [d1, d2] => { results := [.lit (.bool false)], args := [d1, d2] }
  | _ => none }
def FnVarintsWrongFalsely : Prop := fnVarintsRow.holds Try.pinned (OpenSpec.ofChange fnVarintsWrong)

/-- 'laws.FnBlocks': WHATEVER THE INPUT: true; the input reads as it did. -/
def fnBlocksSpec : ChangeSpec := { name := "fnBlocks", fn := fun _ => fun
  | [d1, d2] => { results := [.lit (.bool true)], args := [d1, d2] }
  | _ => none }
def fnBlocksRow : OpenClaim := { program := "ytcggngmcaicdpab", sum := "4747dadd7fea1d2772af7fdd4cfed52cf33f4967946f031393187e5e3e293e0d", func := "loop.example/g00206/laws.FnBlocks", spec := "fnBlocks", apart := false }
def FnBlocksSaid : Prop := fnBlocksRow.holds Try.pinned (OpenSpec.ofChange fnBlocksSpec)

/-- ITS FALSE NEIGHBOUR: 'it returns false'. Refute it at one input. -/
def fnBlocksWrong : ChangeSpec := { name := "fnBlocks", fn := fun _ => fun
  | [d1, d2] => { results := [.lit (.bool false)], args := [d1, d2] }
  | _ => none }
def FnBlocksWrongFalsely : Prop := fnBlocksRow.holds Try.pinned (OpenSpec.ofChange fnBlocksWrong)

/-- 'laws.FnPrefixed': WHATEVER THE INPUT: true; the input reads as it did. -/
def fnPrefixedSpec : ChangeSpec := { name := "fnPrefixed", fn := fun _ => fun
  | [d1, d2] => { results := [.lit (.bool true)], args := [d1, d2] }
  | _ => none }
def fnPrefixedRow : OpenClaim := { program := "ytcggngmcaicdpab", sum := "4747dadd7fea1d2772af7fdd4cfed52cf33f4967946f031393187e5e3e293e0d", func := "loop.example/g00206/laws.FnPrefixed", spec := "fnPrefixed", apart := false }
def FnPrefixedSaid : Prop := fnPrefixedRow.holds Try.pinned (OpenSpec.ofChange fnPrefixedSpec)

/-- ITS FALSE NEIGHBOUR: 'it returns false'. Refute it at one input. -/
def fnPrefixedWrong : ChangeSpec := { name := "fnPrefixed", fn := fun _ => fun
  | [d1, d2] => { results := [.lit (.bool false)], args := [d1, d2] }
  | _ => none }
def FnPrefixedWrongFalsely : Prop := fnPrefixedRow.holds Try.pinned (OpenSpec.ofChange fnPrefixedWrong)

/-- 'laws.FnPieces': WHATEVER THE INPUT: true; the input reads as it did. -/
def fnPiecesSpec : ChangeSpec := { name := "fnPieces", fn := fun _ => fun
  | [d] => { results := [.lit (.bool true)], args := [d] }
  | _ => none }
def fnPiecesRow : OpenClaim := { program := "ytcggngmcaicdpab", sum := "4747dadd7fea1d2772af7fdd4cfed52cf33f4967946f031393187e5e3e293e0d", func := "loop.example/g00206/laws.FnPieces", spec := "fnPieces", apart := false }
def FnPiecesSaid : Prop := fnPiecesRow.holds Try.pinned (OpenSpec.ofChange fnPiecesSpec)

/-- ITS FALSE NEIGHBOUR: 'it returns false'. Refute it at one input. -/
def fnPiecesWrong : ChangeSpec := { name := "fnPieces", fn := fun _ => fun
  | [d] => { results := [.lit (.bool false)], args := [d] }
  | _ => none }
def FnPiecesWrongFalsely : Prop := fnPiecesRow.holds Try.pinned (OpenSpec.ofChange fnPiecesWrong)

/-- 'laws.FnExactReadCapsules': WHATEVER THE INPUT: true; the input reads as it did. -/
def fnExactReadCapsulesSpec : ChangeSpec := { name := "fnExactReadCapsules", fn := fun _ => fun
  | [d] => { results := [.lit (.bool true)], args := [d] }
  | _ => none }
def fnExactReadCapsulesRow : OpenClaim := { program := "ytcggngmcaicdpab", sum := "4747dadd7fea1d2772af7fdd4cfed52cf33f4967946f031393187e5e3e293e0d", func := "loop.example/g00206/laws.FnExactReadCapsules", spec := "fnExactReadCapsules", apart := false }
def FnExactReadCapsulesSaid : Prop := fnExactReadCapsulesRow.holds Try.pinned (OpenSpec.ofChange fnExactReadCapsulesSpec)

/-- ITS FALSE NEIGHBOUR: 'it returns false'. Refute it at one input. -/
def fnExactReadCapsulesWrong : ChangeSpec := { name := "fnExactReadCapsules", fn := fun _ => fun
  | [d] => { results := [.lit (.bool false)], args := [d] }
  | _ => none }
def FnExactReadCapsulesWrongFalsely : Prop := fnExactReadCapsulesRow.holds Try.pinned (OpenSpec.ofChange fnExactReadCapsulesWrong)

/- THE SECOND FORM. 'bulk': how many values and letters a reading holds, each counted each time it is reached (what is shared counts as often as it is met; a slice's spare places count too). A statement '..UptoSaid' is the law's where the arguments, and the package variables that the reading takes, are together of bulk at most 1048576: NARROWER than '..Said'. Prove '..Said' where nothing that the law and all that it calls make is longer than what came in: it says more and counts as full. Else prove '..UptoSaid'. A law counts once. -/
mutual
def uptoBulk {H : Type} : DataW H → Nat
  | .lit (.string bytes) => bytes.length + 1
  | .lit _ => 1
  | .nil => 1
  | .ptr d => uptoBulk d + 1
  | .slice elems spare => uptoBulkAll elems + uptoBulkAll spare + 1
  | .agg parts => uptoBulkAll parts + 1
  | .iface _ d => uptoBulk d + 1
  | .map entries => uptoBulkEntries entries + 1
  | .held _ => 1
def uptoBulkAll {H : Type} : List (DataW H) → Nat
  | [] => 0
  | d :: r => uptoBulk d + uptoBulkAll r
def uptoBulkEntries {H : Type} : List (Lit × DataW H) → Nat
  | [] => 0
  | x :: r => uptoBulkEntry x + uptoBulkEntries r
def uptoBulkEntry {H : Type} : Lit × DataW H → Nat
  | (.string bytes, d) => bytes.length + uptoBulk d + 1
  | (_, d) => uptoBulk d + 1
 end
def uptoSmall : (H : Type) → List (DataW H) → Bool := fun _ ds => decide (uptoBulkAll ds ≤ 1048576)
def OpenSpec.upto (s : _root_.Go.ChangeSpec) : _root_.Go.OpenSpec := { _root_.Go.OpenSpec.ofChange s with cond := some uptoSmall }

/-- 'laws.FnHex', WHERE WHAT IT READS IS OF BULK AT MOST 1048576: true; the input reads as it did. -/
def fnHexUptoRow : OpenClaim := { program := "ytcggngmcaicdpab", sum := "4747dadd7fea1d2772af7fdd4cfed52cf33f4967946f031393187e5e3e293e0d", func := "loop.example/g00206/laws.FnHex", spec := "fnHex", inPlace := ["internal/bytealg.IndexByteString"], apart := false, narrowed := true }
def FnHexUptoSaid : Prop := fnHexUptoRow.holds Try.pinned (OpenSpec.upto fnHexSpec)

/-- 'laws.FnVarints', WHERE WHAT IT READS IS OF BULK AT MOST 1048576: true; the input reads as it did. -/
def fnVarintsUptoRow : OpenClaim := { program := "ytcggngmcaicdpab", sum := "4747dadd7fea1d2772af7fdd4cfed52cf33f4967946f031393187e5e3e293e0d", func := "loop.example/g00206/laws.FnVarints", spec := "fnVarints", apart := false, narrowed := true }
def FnVarintsUptoSaid : Prop := fnVarintsUptoRow.holds Try.pinned (OpenSpec.upto fnVarintsSpec)

/-- 'laws.FnBlocks', WHERE WHAT IT READS IS OF BULK AT MOST 1048576: true; the input reads as it did. -/
def fnBlocksUptoRow : OpenClaim := { program := "ytcggngmcaicdpab", sum := "4747dadd7fea1d2772af7fdd4cfed52cf33f4967946f031393187e5e3e293e0d", func := "loop.example/g00206/laws.FnBlocks", spec := "fnBlocks", apart := false, narrowed := true }
def FnBlocksUptoSaid : Prop := fnBlocksUptoRow.holds Try.pinned (OpenSpec.upto fnBlocksSpec)

/-- 'laws.FnPrefixed', WHERE WHAT IT READS IS OF BULK AT MOST 1048576: true; the input reads as it did. -/
def fnPrefixedUptoRow : OpenClaim := { program := "ytcggngmcaicdpab", sum := "4747dadd7fea1d2772af7fdd4cfed52cf33f4967946f031393187e5e3e293e0d", func := "loop.example/g00206/laws.FnPrefixed", spec := "fnPrefixed", apart := false, narrowed := true }
def FnPrefixedUptoSaid : Prop := fnPrefixedUptoRow.holds Try.pinned (OpenSpec.upto fnPrefixedSpec)

/-- 'laws.FnPieces', WHERE WHAT IT READS IS OF BULK AT MOST 1048576: true; the input reads as it did. -/
def fnPiecesUptoRow : OpenClaim := { program := "ytcggngmcaicdpab", sum := "4747dadd7fea1d2772af7fdd4cfed52cf33f4967946f031393187e5e3e293e0d", func := "loop.example/g00206/laws.FnPieces", spec := "fnPieces", apart := false, narrowed := true }
def FnPiecesUptoSaid : Prop := fnPiecesUptoRow.holds Try.pinned (OpenSpec.upto fnPiecesSpec)

/-- 'laws.FnExactReadCapsules', WHERE WHAT IT READS IS OF BULK AT MOST 1048576: true; the input reads as it did. -/
def fnExactReadCapsulesUptoRow : OpenClaim := { program := "ytcggngmcaicdpab", sum := "4747dadd7fea1d2772af7fdd4cfed52cf33f4967946f031393187e5e3e293e0d", func := "loop.example/g00206/laws.FnExactReadCapsules", spec := "fnExactReadCapsules", apart := false, narrowed := true }
def FnExactReadCapsulesUptoSaid : Prop := fnExactReadCapsulesUptoRow.holds Try.pinned (OpenSpec.upto fnExactReadCapsulesSpec)

end Rows
end Go.Proofs.Ytcggngmcaicdpab
