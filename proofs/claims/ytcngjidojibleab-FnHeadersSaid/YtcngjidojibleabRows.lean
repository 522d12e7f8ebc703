/-
  No cell of these rows narrows 'for every input' (looked for: loops, veiled, ifaces, maps, wideKeys, modest, calm, conditions, laid).
  DERIVED. THE GIVEN ROWS OF THIS SEAT. 6 by the template 'for every input the law returns true; each argument reads behind the call as it read before'; 0 by the template 'total and deterministic' (their statements: YtcngjidojibleabTotals.lean).
  GIVEN WITH THE SEED: the statements are not yours to turn. If you find one false, say at which input.
  Laid BY PROGRAM, IN A SANDBOX (cutbox-rows.mjs): the forced cells as the released guide's own fill.sh prints them over the translation 34d5ea52b012d445… (all of the seat's roots in one cut). By AI agents, Wed Nov 11 2026. No macro, syntax, notation, axiom, sorry.
-/
import Derived.Test.YtcngjidojibleabChecked
import GoSem.Claim
import GoSem.ClaimJoined
import GoSem.ClaimMapViews
import Derived.JoinedTies
import Derived.KernelRfl
namespace Go.Proofs.Ytcngjidojibleab
/- THE CELL 'sum', in the pinned program and in every row, IS THE sha256 OF THE DUMP (.gsa) THAT YtcngjidojibleabProg.lean LOADS. Nothing in Lean hashes anything: it is a label: what it is worth is what the hold of that sum in a sandbox is worth. -/
noncomputable def Try.pinned : Pinned := { name := "ytcngjidojibleab", sum := "34d5ea52b012d445bc7923c712ed29839f464b72f34f8f94d1f53064e7979e88", checked := Try.checked }
namespace Rows
def none {H : Type} : Left H := { results := [], args := [] }

/-- 'laws.FnCounted': WHATEVER THE INPUT: true; the input reads as it did. -/
def fnCountedSpec : ChangeSpec := { name := "fnCounted", fn := fun _ => fun
  | [d1, d2] => { results := [.lit (.bool true)], args := [d1, d2] }
  | _ => none }
def fnCountedRow : OpenClaim := { program := "ytcngjidojibleab", sum := "34d5ea52b012d445bc7923c712ed29839f464b72f34f8f94d1f53064e7979e88", func := "loop.example/g00206/laws.FnCounted", spec := "fnCounted", apart := false }
def FnCountedSaid : Prop := fnCountedRow.holds Try.pinned (OpenSpec.ofChange fnCountedSpec)

/-- ITS FALSE NEIGHBOUR: 'it returns false'. Refute it at one input. -/
def fnCountedWrong : ChangeSpec := { name := "fnCounted", fn := fun _ => fun
  | [d1, d2] => { results := [.lit (.bool false)], args := [d1, d2] }
  | _ => none }
def FnCountedWrongFalsely : Prop := fnCountedRow.holds Try.pinned (OpenSpec.ofChange fnCountedWrong)

/-- 'laws.FnExactCutDatagram': WHATEVER THE INPUT: true; the input reads as it did. -/
def fnExactCutDatagramSpec : ChangeSpec := { name := "fnExactCutDatagram", fn := fun _ => fun
  | [d1, d2] => { results := [.lit (.bool true)], args := [d1, d2] }
  | _ => none }
def fnExactCutDatagramRow : OpenClaim := { program := "ytcngjidojibleab", sum := "34d5ea52b012d445bc7923c712ed29839f464b72f34f8f94d1f53064e7979e88", func := "loop.example/g00206/laws.FnExactCutDatagram", spec := "fnExactCutDatagram", unfollowed := true, recurses := true, apart := false }
def FnExactCutDatagramSaid : Prop := fnExactCutDatagramRow.holds Try.pinned (OpenSpec.ofChange fnExactCutDatagramSpec)

/-- ITS FALSE NEIGHBOUR: 'it returns false'. Refute it at one input. -/
def fnExactCutDatagramWrong : ChangeSpec := { name := "fnExactCutDatagram", fn := fun _ => fun
  | [d1, d2] => { results := [.lit (.bool false)], args := [d1, d2] }
  | _ => none }
def FnExactCutDatagramWrongFalsely : Prop := fnExactCutDatagramRow.holds Try.pinned (OpenSpec.ofChange fnExactCutDatagramWrong)

/-- 'laws.FnNumbers': WHATEVER THE INPUT: true; the input reads as it did. -/
def fnNumbersSpec : ChangeSpec := { name := "fnNumbers", fn := fun _ => fun
  | [d1, d2] => { results := [.lit (.bool true)], args := [d1, d2] }
  | _ => none }
def fnNumbersRow : OpenClaim := { program := "ytcngjidojibleab", sum := "34d5ea52b012d445bc7923c712ed29839f464b72f34f8f94d1f53064e7979e88", func := "loop.example/g00206/laws.FnNumbers", spec := "fnNumbers", apart := false }
def FnNumbersSaid : Prop := fnNumbersRow.holds Try.pinned (OpenSpec.ofChange fnNumbersSpec)

/-- ITS FALSE NEIGHBOUR: 'it returns false'. Refute it at one input. -/
def fnNumbersWrong : ChangeSpec := { name := "fnNumbers", fn := fun _ => fun
  | [d1, d2] => { results := [.lit (.bool false)], args := [d1, d2] }
  | _ => none }
def FnNumbersWrongFalsely : Prop := fnNumbersRow.holds Try.pinned (OpenSpec.ofChange fnNumbersWrong)

/-- 'laws.FnAcked': WHATEVER THE INPUT: true; the input reads as it did. -/
def fnAckedSpec : ChangeSpec := { name := "fnAcked", fn := fun _ => fun
  | [d] => { results := [.lit (.bool true)], args := [d] }
  | _ => none }
def fnAckedRow : OpenClaim := { program := "ytcngjidojibleab", sum := "34d5ea52b012d445bc7923c712ed29839f464b72f34f8f94d1f53064e7979e88", func := "loop.example/g00206/laws.FnAcked", spec := "fnAcked", unfollowed := true, recurses := true, apart := false }
def FnAckedSaid : Prop := fnAckedRow.holds Try.pinned (OpenSpec.ofChange fnAckedSpec)

/-- ITS FALSE NEIGHBOUR: 'it returns false'. Refute it at one input. -/
def fnAckedWrong : ChangeSpec := { name := "fnAcked", fn := fun _ => fun
  | [d] => { results := [.lit (.bool false)], args := [d] }
  | _ => none }
def FnAckedWrongFalsely : Prop := fnAckedRow.holds Try.pinned (OpenSpec.ofChange fnAckedWrong)

/-- 'laws.FnHeaders': WHATEVER THE INPUT: true; the input reads as it did. -/
def fnHeadersSpec : ChangeSpec := { name := "fnHeaders", fn := fun _ => fun
  | [d] => { results := [.lit (.bool true)], args := [d] }
  | _ => none }
def fnHeadersRow : OpenClaim := { program := "ytcngjidojibleab", sum := "34d5ea52b012d445bc7923c712ed29839f464b72f34f8f94d1f53064e7979e88", func := "loop.example/g00206/laws.FnHeaders", spec := "fnHeaders", unfollowed := true, recurses := true, apart := false }
def FnHeadersSaid : Prop := fnHeadersRow.holds Try.pinned (OpenSpec.ofChange fnHeadersSpec)

/-- ITS FALSE NEIGHBOUR: 'it returns false'. Refute it at one input. -/
def fnHeadersWrong : ChangeSpec := { name := "fnHeaders", fn := fun _ => fun
  | [d] => { results := [.lit (.bool false)], args := [d] }
  | _ => none }
def FnHeadersWrongFalsely : Prop := fnHeadersRow.holds Try.pinned (OpenSpec.ofChange fnHeadersWrong)

/-- 'laws.FnCapsules': WHATEVER THE INPUT: true; the input reads as it did. -/
def fnCapsulesSpec : ChangeSpec := { name := "fnCapsules", fn := fun _ => fun
  | [d1, d2] => { results := [.lit (.bool true)], args := [d1, d2] }
  | _ => none }
def fnCapsulesRow : OpenClaim := { program := "ytcngjidojibleab", sum := "34d5ea52b012d445bc7923c712ed29839f464b72f34f8f94d1f53064e7979e88", func := "loop.example/g00206/laws.FnCapsules", spec := "fnCapsules", inPlace := ["internal/abi.NoEscape", "internal/bytealg.MakeNoZero"], unfollowed := true, recurses := true, apart := false }
def FnCapsulesSaid : Prop := fnCapsulesRow.holds Try.pinned (OpenSpec.ofChange fnCapsulesSpec)

/-- ITS FALSE NEIGHBOUR: 'it returns false'. Refute it at one input. -/
def fnCapsulesWrong : ChangeSpec := { name := "fnCapsules", fn := fun _ => fun
  | [d1, d2] => { results := [.lit (.bool false)], args := [d1, d2] }
  | _ => none }
def FnCapsulesWrongFalsely : Prop := fnCapsulesRow.holds Try.pinned (OpenSpec.ofChange fnCapsulesWrong)

/- THE SECOND FORM. 'bulk': how many values and letters a reading holds, each counted each time it is reached (what is shared counts as often as it is met; a slice's spare places count too). A statement '..UptoSaid' is the law's where the arguments, and the package variables that the reading takes, are together of bulk at most 1048576: NARROWER than '..Said'. Prove '..Said' where nothing that the law and all that it calls make is longer than what came in: it says more and counts as full. Else prove '..UptoSaid'. A law counts once. -/
mutual
def uptoBulk {H : Type} : DataW H → Nat
  | .lit (.string bytes) => bytes.length + 1
  | .lit _ => 1
  | .nil => 1
  | .ptr d => uptoBulk d + 1
  | .slice elems spare => uptoBulkAll elems + uptoBulkAll spare + 1
  | .agg parts => uptoBulkAll parts + 1
  | .iface _ d => uptoBulk d + 1
  | .map entries => uptoBulkEntries entries + 1
  | .held _ => 1
def uptoBulkAll {H : Type} : List (DataW H) → Nat
  | [] => 0
  | d :: r => uptoBulk d + uptoBulkAll r
def uptoBulkEntries {H : Type} : List (Lit × DataW H) → Nat
  | [] => 0
  | x :: r => uptoBulkEntry x + uptoBulkEntries r
def uptoBulkEntry {H : Type} : Lit × DataW H → Nat
  | (.string bytes, d) => bytes.length + uptoBulk d + 1
  | (_, d) => uptoBulk d + 1
 end
def uptoSmall : (H : Type) → List (DataW H) → Bool := fun _ ds => decide (uptoBulkAll ds ≤ 1048576)
def OpenSpec.upto (s : _root_.Go.ChangeSpec) : _root_.Go.OpenSpec := { _root_.Go.OpenSpec.ofChange s with cond := some uptoSmall }

/-- 'laws.FnCounted', WHERE WHAT IT READS IS OF BULK AT MOST 1048576: true; the input reads as it did. -/
def fnCountedUptoRow : OpenClaim := { program := "ytcngjidojibleab", sum := "34d5ea52b012d445bc7923c712ed29839f464b72f34f8f94d1f53064e7979e88", func := "loop.example/g00206/laws.FnCounted", spec := "fnCounted", apart := false, narrowed := true }
def FnCountedUptoSaid : Prop := fnCountedUptoRow.holds Try.pinned (OpenSpec.upto fnCountedSpec)

/-- 'laws.FnExactCutDatagram', WHERE WHAT IT READS IS OF BULK AT MOST 1048576: true; the input reads as it did. -/
def fnExactCutDatagramUptoRow : OpenClaim := { program := "ytcngjidojibleab", sum := "34d5ea52b012d445bc7923c712ed29839f464b72f34f8f94d1f53064e7979e88", func := "loop.example/g00206/laws.FnExactCutDatagram", spec := "fnExactCutDatagram", unfollowed := true, recurses := true, apart := false, narrowed := true }
def FnExactCutDatagramUptoSaid : Prop := fnExactCutDatagramUptoRow.holds Try.pinned (OpenSpec.upto fnExactCutDatagramSpec)

/-- 'laws.FnNumbers', WHERE WHAT IT READS IS OF BULK AT MOST 1048576: true; the input reads as it did. -/
def fnNumbersUptoRow : OpenClaim := { program := "ytcngjidojibleab", sum := "34d5ea52b012d445bc7923c712ed29839f464b72f34f8f94d1f53064e7979e88", func := "loop.example/g00206/laws.FnNumbers", spec := "fnNumbers", apart := false, narrowed := true }
def FnNumbersUptoSaid : Prop := fnNumbersUptoRow.holds Try.pinned (OpenSpec.upto fnNumbersSpec)

/-- 'laws.FnAcked', WHERE WHAT IT READS IS OF BULK AT MOST 1048576: true; the input reads as it did. -/
def fnAckedUptoRow : OpenClaim := { program := "ytcngjidojibleab", sum := "34d5ea52b012d445bc7923c712ed29839f464b72f34f8f94d1f53064e7979e88", func := "loop.example/g00206/laws.FnAcked", spec := "fnAcked", unfollowed := true, recurses := true, apart := false, narrowed := true }
def FnAckedUptoSaid : Prop := fnAckedUptoRow.holds Try.pinned (OpenSpec.upto fnAckedSpec)

/-- 'laws.FnHeaders', WHERE WHAT IT READS IS OF BULK AT MOST 1048576: true; the input reads as it did. -/
def fnHeadersUptoRow : OpenClaim := { program := "ytcngjidojibleab", sum := "34d5ea52b012d445bc7923c712ed29839f464b72f34f8f94d1f53064e7979e88", func := "loop.example/g00206/laws.FnHeaders", spec := "fnHeaders", unfollowed := true, recurses := true, apart := false, narrowed := true }
def FnHeadersUptoSaid : Prop := fnHeadersUptoRow.holds Try.pinned (OpenSpec.upto fnHeadersSpec)

/-- 'laws.FnCapsules', WHERE WHAT IT READS IS OF BULK AT MOST 1048576: true; the input reads as it did. -/
def fnCapsulesUptoRow : OpenClaim := { program := "ytcngjidojibleab", sum := "34d5ea52b012d445bc7923c712ed29839f464b72f34f8f94d1f53064e7979e88", func := "loop.example/g00206/laws.FnCapsules", spec := "fnCapsules", inPlace := ["internal/abi.NoEscape", "internal/bytealg.MakeNoZero"], unfollowed := true, recurses := true, apart := false, narrowed := true }
def FnCapsulesUptoSaid : Prop := fnCapsulesUptoRow.holds Try.pinned (OpenSpec.upto fnCapsulesSpec)

end Rows
end Go.Proofs.Ytcngjidojibleab
