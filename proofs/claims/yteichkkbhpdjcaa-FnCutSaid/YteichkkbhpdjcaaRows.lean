/-
  No cell of these rows narrows 'for every input' (looked for: loops, veiled, ifaces, maps, wideKeys, modest, calm, conditions, laid).
  DERIVED. THE GIVEN ROWS OF THIS SEAT. 6 by the template 'for every input the law returns true; each argument reads behind the call as it read before'; 0 by the template 'total and deterministic' (their statements: YteichkkbhpdjcaaTotals.lean).
  GIVEN WITH THE SEED: the statements are not yours to turn. If you find one false, say at which input.
  Laid BY PROGRAM, IN A SANDBOX (cutbox-rows.mjs): the forced cells as the released guide's own fill.sh prints them over the translation 71f1dea248a2f76c… (all of the seat's roots in one cut). By AI agents, Wed Nov 11 2026. No macro, syntax, notation, axiom, sorry.
-/
import Derived.Test.YteichkkbhpdjcaaChecked
import GoSem.Claim
import GoSem.ClaimJoined
import GoSem.ClaimMapViews
import Derived.JoinedTies
import Derived.KernelRfl
namespace Go.Proofs.Yteichkkbhpdjcaa
/- THE CELL 'sum', in the pinned program and in every row, IS THE sha256 OF THE DUMP (.gsa) THAT YteichkkbhpdjcaaProg.lean LOADS. Nothing in Lean hashes anything: it is a label: what it is worth is what the hold of that sum in a sandbox is worth. -/
noncomputable def Try.pinned : Pinned := { name := "yteichkkbhpdjcaa", sum := "71f1dea248a2f76c0970614cf78f5b05fdb38376d15c1e28e15c366ef304a9fc", checked := Try.checked }
namespace Rows
def none {H : Type} : Left H := { results := [], args := [] }

/-- 'laws.FnBounded': WHATEVER THE INPUT: true; the input reads as it did. -/
def fnBoundedSpec : ChangeSpec := { name := "fnBounded", fn := fun _ => fun
  | [d1, d2] => { results := [.lit (.bool true)], args := [d1, d2] }
  | _ => none }
def fnBoundedRow : OpenClaim := { program := "yteichkkbhpdjcaa", sum := "71f1dea248a2f76c0970614cf78f5b05fdb38376d15c1e28e15c366ef304a9fc", func := "loop.example/g00206/laws.FnBounded", spec := "fnBounded", inPlace := ["slices.overlaps[loop.example/g00206/impl.Piece]"], unfollowed := true, recurses := true, apart := false }
def FnBoundedSaid : Prop := fnBoundedRow.holds Try.pinned (OpenSpec.ofChange fnBoundedSpec)

/-- ITS FALSE NEIGHBOUR: 'it returns false'. Refute it at one input. -/
def fnBoundedWrong : ChangeSpec := { name := "fnBounded", fn := fun _ => fun
  | [d1, d2] => { results := [.lit (.bool false)], args := [d1, d2] }
  | _ => none }
def FnBoundedWrongFalsely : Prop := fnBoundedRow.holds Try.pinned (OpenSpec.ofChange fnBoundedWrong)

/-- 'laws.FnOrdered': WHATEVER THE INPUT: true; the input reads as it did. -/
def fnOrderedSpec : ChangeSpec := { name := "fnOrdered", fn := fun _ => fun
  | [d] => { results := [.lit (.bool true)], args := [d] }
  | _ => none }
def fnOrderedRow : OpenClaim := { program := "yteichkkbhpdjcaa", sum := "71f1dea248a2f76c0970614cf78f5b05fdb38376d15c1e28e15c366ef304a9fc", func := "loop.example/g00206/laws.FnOrdered", spec := "fnOrdered", inPlace := ["slices.overlaps[loop.example/g00206/impl.Piece]"], unfollowed := true, recurses := true, apart := false }
def FnOrderedSaid : Prop := fnOrderedRow.holds Try.pinned (OpenSpec.ofChange fnOrderedSpec)

/-- ITS FALSE NEIGHBOUR: 'it returns false'. Refute it at one input. -/
def fnOrderedWrong : ChangeSpec := { name := "fnOrdered", fn := fun _ => fun
  | [d] => { results := [.lit (.bool false)], args := [d] }
  | _ => none }
def FnOrderedWrongFalsely : Prop := fnOrderedRow.holds Try.pinned (OpenSpec.ofChange fnOrderedWrong)

/-- 'laws.FnExactUpDatagram': WHATEVER THE INPUT: true; the input reads as it did. -/
def fnExactUpDatagramSpec : ChangeSpec := { name := "fnExactUpDatagram", fn := fun _ => fun
  | [d1, d2] => { results := [.lit (.bool true)], args := [d1, d2] }
  | _ => none }
def fnExactUpDatagramRow : OpenClaim := { program := "yteichkkbhpdjcaa", sum := "71f1dea248a2f76c0970614cf78f5b05fdb38376d15c1e28e15c366ef304a9fc", func := "loop.example/g00206/laws.FnExactUpDatagram", spec := "fnExactUpDatagram", inPlace := ["internal/bytealg.IndexByteString"], unfollowed := true, recurses := true, apart := false }
def FnExactUpDatagramSaid : Prop := fnExactUpDatagramRow.holds Try.pinned (OpenSpec.ofChange fnExactUpDatagramSpec)

/-- ITS FALSE NEIGHBOUR: 'it returns false'. Refute it at one input. -/
def fnExactUpDatagramWrong : ChangeSpec := { name := "fnExactUpDatagram", fn := fun _ => fun
  | [d1, d2] => { results := [.lit (.bool false)], args := [d1, d2] }
  | _ => none }
def FnExactUpDatagramWrongFalsely : Prop := fnExactUpDatagramRow.holds Try.pinned (OpenSpec.ofChange fnExactUpDatagramWrong)

/-- 'laws.FnFeistel': WHATEVER THE INPUT: true; the input reads as it did. -/
def fnFeistelSpec : ChangeSpec := { name := "fnFeistel", fn := fun _ => fun
  | [d1, d2] => { results := [.lit (.bool true)], args := [d1, d2] }
  | _ => none }
def fnFeistelRow : OpenClaim := { program := "yteichkkbhpdjcaa", sum := "71f1dea248a2f76c0970614cf78f5b05fdb38376d15c1e28e15c366ef304a9fc", func := "loop.example/g00206/laws.FnFeistel", spec := "fnFeistel", inPlace := ["internal/abi.NoEscape", "internal/bytealg.MakeNoZero"], apart := false }
def FnFeistelSaid : Prop := fnFeistelRow.holds Try.pinned (OpenSpec.ofChange fnFeistelSpec)

/-- ITS FALSE NEIGHBOUR: 'it returns false'. Refute it at one input. -/
def fnFeistelWrong : ChangeSpec := { name := "fnFeistel", fn := fun _ => fun
  | [d1, d2] => { results := [.lit (.bool false)], args := [d1, d2] }
  | _ => none }
def FnFeistelWrongFalsely : Prop := fnFeistelRow.holds Try.pinned (OpenSpec.ofChange fnFeistelWrong)

/-- 'laws.FnCut': WHATEVER THE INPUT: true; the input reads as it did. -/
def fnCutSpec : ChangeSpec := { name := "fnCut", fn := fun _ => fun
  | [d1, d2] => { results := [.lit (.bool true)], args := [d1, d2] }
  | _ => none }
def fnCutRow : OpenClaim := { program := "yteichkkbhpdjcaa", sum := "71f1dea248a2f76c0970614cf78f5b05fdb38376d15c1e28e15c366ef304a9fc", func := "loop.example/g00206/laws.FnCut", spec := "fnCut", unfollowed := true, recurses := true, apart := false }
def FnCutSaid : Prop := fnCutRow.holds Try.pinned (OpenSpec.ofChange fnCutSpec)

/-- ITS FALSE NEIGHBOUR: 'it returns false'. Refute it at one input. -/
def fnCutWrong : ChangeSpec := { name := "fnCut", fn := fun _ => fun
  | [d1, d2] => { results := [.lit (.bool false)], args := [d1, d2] }
  | _ => none }
def FnCutWrongFalsely : Prop := fnCutRow.holds Try.pinned (OpenSpec.ofChange fnCutWrong)

/-- 'laws.FnExactRetryTag': WHATEVER THE INPUT: true; the input reads as it did. -/
def fnExactRetryTagSpec : ChangeSpec := { name := "fnExactRetryTag", fn := fun _ => fun
  | [d1, d2] => { results := [.lit (.bool true)], args := [d1, d2] }
  | _ => none }
def fnExactRetryTagRow : OpenClaim := { program := "yteichkkbhpdjcaa", sum := "71f1dea248a2f76c0970614cf78f5b05fdb38376d15c1e28e15c366ef304a9fc", func := "loop.example/g00206/laws.FnExactRetryTag", spec := "fnExactRetryTag", inPlace := ["internal/bytealg.IndexByteString", "internal/abi.NoEscape", "internal/bytealg.MakeNoZero"], apart := false }
def FnExactRetryTagSaid : Prop := fnExactRetryTagRow.holds Try.pinned (OpenSpec.ofChange fnExactRetryTagSpec)

/-- ITS FALSE NEIGHBOUR: 'it returns false'. Refute it at one input. -/
def fnExactRetryTagWrong : ChangeSpec := { name := "fnExactRetryTag", fn := fun _ => fun
  | [d1, d2] => { results := [.lit (.bool false)], args := [d1, d2] }
  | _ => none }
def FnExactRetryTagWrongFalsely : Prop := fnExactRetryTagRow.holds Try.pinned (OpenSpec.ofChange fnExactRetryTagWrong)

/- THE SECOND FORM. 'bulk': how many values and letters a reading holds, each counted each time it is reached (what is shared counts as often as it is met; a slice's spare places count too). A statement '..UptoSaid' is the law's where the arguments, and the package variables that the reading takes, are together of bulk at most 1048576: NARROWER than '..Said'. Prove '..Said' where nothing that the law and all that it calls make is longer than what came in: it says more and counts as full. Else prove '..UptoSaid'. A law counts once. -/
mutual
def uptoBulk {H : Type} : DataW H → Nat
  | .lit (.string bytes) => bytes.length + 1
  | .lit _ => 1
  | .nil => 1
  | .ptr d => uptoBulk d + 1
  | .slice elems spare => uptoBulkAll elems + uptoBulkAll spare + 1
  | .agg parts => uptoBulkAll parts + 1
  | .iface _ d => uptoBulk d + 1
  | .map entries => uptoBulkEntries entries + 1
  | .held _ => 1
def uptoBulkAll {H : Type} : List (DataW H) → Nat
  | [] => 0
  | d :: r => uptoBulk d + uptoBulkAll r
def uptoBulkEntries {H : Type} : List (Lit × DataW H) → Nat
  | [] => 0
  | x :: r => uptoBulkEntry x + uptoBulkEntries r
def uptoBulkEntry {H : Type} : Lit × DataW H → Nat
  | (.string bytes, d) => bytes.length + uptoBulk d + 1
  | (_, d) => uptoBulk d + 1
 end
def uptoSmall : (H : Type) → List (DataW H) → Bool := fun _ ds => decide (uptoBulkAll ds ≤ 1048576)
def OpenSpec.upto (s : _root_.Go.ChangeSpec) : _root_.Go.OpenSpec := { _root_.Go.OpenSpec.ofChange s with cond := some uptoSmall }

/-- 'laws.FnBounded', WHERE WHAT IT READS IS OF BULK AT MOST 1048576: true; the input reads as it did. -/
def fnBoundedUptoRow : OpenClaim := { program := "yteichkkbhpdjcaa", sum := "71f1dea248a2f76c0970614cf78f5b05fdb38376d15c1e28e15c366ef304a9fc", func := "loop.example/g00206/laws.FnBounded", spec := "fnBounded", inPlace := ["slices.overlaps[loop.example/g00206/impl.Piece]"], unfollowed := true, recurses := true, apart := false, narrowed := true }
def FnBoundedUptoSaid : Prop := fnBoundedUptoRow.holds Try.pinned (OpenSpec.upto fnBoundedSpec)

/-- 'laws.FnOrdered', WHERE WHAT IT READS IS OF BULK AT MOST 1048576: true; the input reads as it did. -/
def fnOrderedUptoRow : OpenClaim := { program := "yteichkkbhpdjcaa", sum := "71f1dea248a2f76c0970614cf78f5b05fdb38376d15c1e28e15c366ef304a9fc", func := "loop.example/g00206/laws.FnOrdered", spec := "fnOrdered", inPlace := ["slices.overlaps[loop.example/g00206/impl.Piece]"], unfollowed := true, recurses := true, apart := false, narrowed := true }
def FnOrderedUptoSaid : Prop := fnOrderedUptoRow.holds Try.pinned (OpenSpec.upto fnOrderedSpec)

/-- 'laws.FnExactUpDatagram', WHERE WHAT IT READS IS OF BULK AT MOST 1048576: true; the input reads as it did. -/
def fnExactUpDatagramUptoRow : OpenClaim := { program := "yteichkkbhpdjcaa", sum := "71f1dea248a2f76c0970614cf78f5b05fdb38376d15c1e28e15c366ef304a9fc", func := "loop.example/g00206/laws.FnExactUpDatagram", spec := "fnExactUpDatagram", inPlace := ["internal/bytealg.IndexByteString"], unfollowed := true, recurses := true, apart := false, narrowed := true }
def FnExactUpDatagramUptoSaid : Prop := fnExactUpDatagramUptoRow.holds Try.pinned (OpenSpec.upto fnExactUpDatagramSpec)

/-- 'laws.FnFeistel', WHERE WHAT IT READS IS OF BULK AT MOST 1048576: true; the input reads as it did. -/
def fnFeistelUptoRow : OpenClaim := { program := "yteichkkbhpdjcaa", sum := "71f1dea248a2f76c0970614cf78f5b05fdb38376d15c1e28e15c366ef304a9fc", func := "loop.example/g00206/laws.FnFeistel", spec := "fnFeistel", inPlace := ["internal/abi.NoEscape", "internal/bytealg.MakeNoZero"], apart := false, narrowed := true }
def FnFeistelUptoSaid : Prop := fnFeistelUptoRow.holds Try.pinned (OpenSpec.upto fnFeistelSpec)

/-- 'laws.FnCut', WHERE WHAT IT READS IS OF BULK AT MOST 1048576: true; the input reads as it did. -/
def fnCutUptoRow : OpenClaim := { program := "yteichkkbhpdjcaa", sum := "71f1dea248a2f76c0970614cf78f5b05fdb38376d15c1e28e15c366ef304a9fc", func := "loop.example/g00206/laws.FnCut", spec := "fnCut", unfollowed := true, recurses := true, apart := false, narrowed := true }
def FnCutUptoSaid : Prop := fnCutUptoRow.holds Try.pinned (OpenSpec.upto fnCutSpec)

/-- 'laws.FnExactRetryTag', WHERE WHAT IT READS IS OF BULK AT MOST 1048576: true; the input reads as it did. -/
def fnExactRetryTagUptoRow : OpenClaim := { program := "yteichkkbhpdjcaa", sum := "71f1dea248a2f76c0970614cf78f5b05fdb38376d15c1e28e15c366ef304a9fc", func := "loop.example/g00206/laws.FnExactRetryTag", spec := "fnExactRetryTag", inPlace := ["internal/bytealg.IndexByteString", "internal/abi.NoEscape", "internal/bytealg.MakeNoZero"], apart := false, narrowed := true }
def FnExactRetryTagUptoSaid : Prop := fnExactRetryTagUptoRow.holds Try.pinned (OpenSpec.upto fnExactRetryTagSpec)

end Rows
end Go.Proofs.Yteichkkbhpdjcaa
