/-
  No cell of these rows narrows 'for every input' (looked for: loops, veiled, ifaces, maps, wideKeys, modest, calm, conditions, laid).
  DERIVED. THE GIVEN ROWS OF THIS SEAT. 6 by the template 'for every input the law returns true; each argument reads behind the call as it read before'; 0 by the template 'total and deterministic' (their statements: YtcngjidojibleaaTotals.lean).
  GIVEN WITH THE SEED: the statements are not yours to turn. If you find one false, say at which input.
  Laid BY PROGRAM, IN A SANDBOX (cutbox-rows.mjs): the forced cells as the released guide's own fill.sh prints them over the translation e67d653454fa2f59… (all of the seat's roots in one cut). By AI agents, Wed Nov 11 2026. No macro, syntax, notation, axiom, sorry.
-/
import Derived.Test.YtcngjidojibleaaChecked
import GoSem.Claim
import GoSem.ClaimJoined
import GoSem.ClaimMapViews
import Derived.JoinedTies
import Derived.KernelRfl
namespace Go.Proofs.Ytcngjidojibleaa
/- THE CELL 'sum', in the pinned program and in every row, IS THE sha256 OF THE DUMP (.gsa) THAT YtcngjidojibleaaProg.lean LOADS. Nothing in Lean hashes anything: it is a label: what it is worth is what the hold of that sum in a sandbox is worth. -/
noncomputable def Try.pinned : Pinned := { name := "ytcngjidojibleaa", sum := "e67d653454fa2f59d9dc22aeeabb347773d36897f863e989a31a0efe006108eb", checked := Try.checked }
namespace Rows
def none {H : Type} : Left H := { results := [], args := [] }

/-- 'laws.FnGhash': WHATEVER THE INPUT: true; the input reads as it did. -/
def fnGhashSpec : ChangeSpec := { name := "fnGhash", fn := fun _ => fun
  | [d1, d2] => { results := [.lit (.bool true)], args := [d1, d2] }
  | _ => none }
def fnGhashRow : OpenClaim := { program := "ytcngjidojibleaa", sum := "e67d653454fa2f59d9dc22aeeabb347773d36897f863e989a31a0efe006108eb", func := "loop.example/g00206/laws.FnGhash", spec := "fnGhash", apart := false }
def FnGhashSaid : Prop := fnGhashRow.holds Try.pinned (OpenSpec.ofChange fnGhashSpec)

/-- ITS FALSE NEIGHBOUR: 'it returns false'. Refute it at one input. -/
def fnGhashWrong : ChangeSpec := { name := "fnGhash", fn := fun _ => fun
  | [d1, d2] => { results := [.lit (.bool false)], args := [d1, d2] }
  | _ => none }
def FnGhashWrongFalsely : Prop := fnGhashRow.holds Try.pinned (OpenSpec.ofChange fnGhashWrong)

/-- 'laws.FnCarried': WHATEVER THE INPUT: true; the input reads as it did. -/
def fnCarriedSpec : ChangeSpec := { name := "fnCarried", fn := fun _ => fun
  | [d] => { results := [.lit (.bool true)], args := [d] }
  | _ => none }
def fnCarriedRow : OpenClaim := { program := "ytcngjidojibleaa", sum := "e67d653454fa2f59d9dc22aeeabb347773d36897f863e989a31a0efe006108eb", func := "loop.example/g00206/laws.FnCarried", spec := "fnCarried", apart := false }
def FnCarriedSaid : Prop := fnCarriedRow.holds Try.pinned (OpenSpec.ofChange fnCarriedSpec)

/-- ITS FALSE NEIGHBOUR: 'it returns false'. Refute it at one input. -/
def fnCarriedWrong : ChangeSpec := { name := "fnCarried", fn := fun _ => fun
  | [d] => { results := [.lit (.bool false)], args := [d] }
  | _ => none }
def FnCarriedWrongFalsely : Prop := fnCarriedRow.holds Try.pinned (OpenSpec.ofChange fnCarriedWrong)

/-- 'laws.FnWindow': WHATEVER THE INPUT: true; the input reads as it did. -/
def fnWindowSpec : ChangeSpec := { name := "fnWindow", fn := fun _ => fun
  | [d1, d2] => { results := [.lit (.bool true)], args := [d1, d2] }
  | _ => none }
def fnWindowRow : OpenClaim := { program := "ytcngjidojibleaa", sum := "e67d653454fa2f59d9dc22aeeabb347773d36897f863e989a31a0efe006108eb", func := "loop.example/g00206/laws.FnWindow", spec := "fnWindow", apart := false }
def FnWindowSaid : Prop := fnWindowRow.holds Try.pinned (OpenSpec.ofChange fnWindowSpec)

/-- ITS FALSE NEIGHBOUR: 'it returns false'. Refute it at one input. -/
def fnWindowWrong : ChangeSpec := { name := "fnWindow", fn := fun _ => fun
  | [d1, d2] => { results := [.lit (.bool false)], args := [d1, d2] }
  | _ => none }
def FnWindowWrongFalsely : Prop := fnWindowRow.holds Try.pinned (OpenSpec.ofChange fnWindowWrong)

/-- 'laws.FnAimd': WHATEVER THE INPUT: true; the input reads as it did. -/
def fnAimdSpec : ChangeSpec := { name := "fnAimd", fn := fun _ => fun
  | [d1, d2] => { results := [.lit (.bool true)], args := [d1, d2] }
  | _ => none }
def fnAimdRow : OpenClaim := { program := "ytcngjidojibleaa", sum := "e67d653454fa2f59d9dc22aeeabb347773d36897f863e989a31a0efe006108eb", func := "loop.example/g00206/laws.FnAimd", spec := "fnAimd", apart := false }
def FnAimdSaid : Prop := fnAimdRow.holds Try.pinned (OpenSpec.ofChange fnAimdSpec)

/-- ITS FALSE NEIGHBOUR: 'it returns false'. Refute it at one input. -/
def fnAimdWrong : ChangeSpec := { name := "fnAimd", fn := fun _ => fun
  | [d1, d2] => { results := [.lit (.bool false)], args := [d1, d2] }
  | _ => none }
def FnAimdWrongFalsely : Prop := fnAimdRow.holds Try.pinned (OpenSpec.ofChange fnAimdWrong)

/-- 'laws.FnExactFeedCapsules': WHATEVER THE INPUT: true; the input reads as it did. -/
def fnExactFeedCapsulesSpec : ChangeSpec := { name := "fnExactFeedCapsules", fn := fun _ => fun
  | [d] => { results := [.lit (.bool true)], args := [d] }
  | _ => none }
def fnExactFeedCapsulesRow : OpenClaim := { program := "ytcngjidojibleaa", sum := "e67d653454fa2f59d9dc22aeeabb347773d36897f863e989a31a0efe006108eb", func := "loop.example/g00206/laws.FnExactFeedCapsules", spec := "fnExactFeedCapsules", inPlace := ["internal/abi.NoEscape", "internal/bytealg.MakeNoZero"], apart := false }
def FnExactFeedCapsulesSaid : Prop := fnExactFeedCapsulesRow.holds Try.pinned (OpenSpec.ofChange fnExactFeedCapsulesSpec)

/-- ITS FALSE NEIGHBOUR: 'it returns false'. Refute it at one input. -/
def fnExactFeedCapsulesWrong : ChangeSpec := { name := "fnExactFeedCapsules", fn := fun _ => fun
  | [d] => { results := [.lit (.bool false)], args := [d] }
  | _ => none }
def FnExactFeedCapsulesWrongFalsely : Prop := fnExactFeedCapsulesRow.holds Try.pinned (OpenSpec.ofChange fnExactFeedCapsulesWrong)

/-- 'laws.FnAes': WHATEVER THE INPUT: true; the input reads as it did. -/
def fnAesSpec : ChangeSpec := { name := "fnAes", fn := fun _ => fun
  | [d1, d2] => { results := [.lit (.bool true)], args := [d1, d2] }
  | _ => none }
def fnAesRow : OpenClaim := { program := "ytcngjidojibleaa", sum := "e67d653454fa2f59d9dc22aeeabb347773d36897f863e989a31a0efe006108eb", func := "loop.example/g00206/laws.FnAes", spec := "fnAes", apart := false }
def FnAesSaid : Prop := fnAesRow.holds Try.pinned (OpenSpec.ofChange fnAesSpec)

/-- ITS FALSE NEIGHBOUR: 'it returns false'. Refute it at one input. -/
def fnAesWrong : ChangeSpec := { name := "fnAes", fn := fun _ => fun
  | [d1, d2] => { results := [.lit (.bool false)], args := [d1, d2] }
  | _ => none }
def FnAesWrongFalsely : Prop := fnAesRow.holds Try.pinned (OpenSpec.ofChange fnAesWrong)

/- THE SECOND FORM. 'bulk': how many values and letters a reading holds, each counted each time it is reached (what is shared counts as often as it is met; a slice's spare places count too). A statement '..UptoSaid' is the law's where the arguments, and the package variables that the reading takes, are together of bulk at most 1048576: NARROWER than '..Said'. Prove '..Said' where nothing that the law and all that it calls make is longer than what came in: it says more and counts as full. Else prove '..UptoSaid'. A law counts once. -/
mutual
def uptoBulk {H : Type} : DataW H → Nat
  | .lit (.string bytes) => bytes.length + 1
  | .lit _ => 1
  | .nil => 1
  | .ptr d => uptoBulk d + 1
  | .slice elems spare => uptoBulkAll elems + uptoBulkAll spare + 1
  | .agg parts => uptoBulkAll parts + 1
  | .iface _ d => uptoBulk d + 1
  | .map entries => uptoBulkEntries entries + 1
  | .held _ => 1
def uptoBulkAll {H : Type} : List (DataW H) → Nat
  | [] => 0
  | d :: r => uptoBulk d + uptoBulkAll r
def uptoBulkEntries {H : Type} : List (Lit × DataW H) → Nat
  | [] => 0
  | x :: r => uptoBulkEntry x + uptoBulkEntries r
def uptoBulkEntry {H : Type} : Lit × DataW H → Nat
  | (.string bytes, d) => bytes.length + uptoBulk d + 1
  | (_, d) => uptoBulk d + 1
 end
def uptoSmall : (H : Type) → List (DataW H) → Bool := fun _ ds => decide (uptoBulkAll ds ≤ 1048576)
def OpenSpec.upto (s : _root_.Go.ChangeSpec) : _root_.Go.OpenSpec := { _root_.Go.OpenSpec.ofChange s with cond := some uptoSmall }

/-- 'laws.FnGhash', WHERE WHAT IT READS IS OF BULK AT MOST 1048576: true; the input reads as it did. -/
def fnGhashUptoRow : OpenClaim := { program := "ytcngjidojibleaa", sum := "e67d653454fa2f59d9dc22aeeabb347773d36897f863e989a31a0efe006108eb", func := "loop.example/g00206/laws.FnGhash", spec := "fnGhash", apart := false, narrowed := true }
def FnGhashUptoSaid : Prop := fnGhashUptoRow.holds Try.pinned (OpenSpec.upto fnGhashSpec)

/-- 'laws.FnCarried', WHERE WHAT IT READS IS OF BULK AT MOST 1048576: true; the input reads as it did. -/
def fnCarriedUptoRow : OpenClaim := { program := "ytcngjidojibleaa", sum := "e67d653454fa2f59d9dc22aeeabb347773d36897f863e989a31a0efe006108eb", func := "loop.example/g00206/laws.FnCarried", spec := "fnCarried", apart := false, narrowed := true }
def FnCarriedUptoSaid : Prop := fnCarriedUptoRow.holds Try.pinned (OpenSpec.upto fnCarriedSpec)

/-- 'laws.FnWindow', WHERE WHAT IT READS IS OF BULK AT MOST 1048576: true; the input reads as it did. -/
def fnWindowUptoRow : OpenClaim := { program := "ytcngjidojibleaa", sum := "e67d653454fa2f59d9dc22aeeabb347773d36897f863e989a31a0efe006108eb", func := "loop.example/g00206/laws.FnWindow", spec := "fnWindow", apart := false, narrowed := true }
def FnWindowUptoSaid : Prop := fnWindowUptoRow.holds Try.pinned (OpenSpec.upto fnWindowSpec)

/-- 'laws.FnAimd', WHERE WHAT IT READS IS OF BULK AT MOST 1048576: true; the input reads as it did. -/
def fnAimdUptoRow : OpenClaim := { program := "ytcngjidojibleaa", sum := "e67d653454fa2f59d9dc22aeeabb347773d36897f863e989a31a0efe006108eb", func := "loop.example/g00206/laws.FnAimd", spec := "fnAimd", apart := false, narrowed := true }
def FnAimdUptoSaid : Prop := fnAimdUptoRow.holds Try.pinned (OpenSpec.upto fnAimdSpec)

/-- 'laws.FnExactFeedCapsules', WHERE WHAT IT READS IS OF BULK AT MOST 1048576: true; the input reads as it did. -/
def fnExactFeedCapsulesUptoRow : OpenClaim := { program := "ytcngjidojibleaa", sum := "e67d653454fa2f59d9dc22aeeabb347773d36897f863e989a31a0efe006108eb", func := "loop.example/g00206/laws.FnExactFeedCapsules", spec := "fnExactFeedCapsules", inPlace := ["internal/abi.NoEscape", "internal/bytealg.MakeNoZero"], apart := false, narrowed := true }
def FnExactFeedCapsulesUptoSaid : Prop := fnExactFeedCapsulesUptoRow.holds Try.pinned (OpenSpec.upto fnExactFeedCapsulesSpec)

/-- 'laws.FnAes', WHERE WHAT IT READS IS OF BULK AT MOST 1048576: true; the input reads as it did. -/
def fnAesUptoRow : OpenClaim := { program := "ytcngjidojibleaa", sum := "e67d653454fa2f59d9dc22aeeabb347773d36897f863e989a31a0efe006108eb", func := "loop.example/g00206/laws.FnAes", spec := "fnAes", apart := false, narrowed := true }
def FnAesUptoSaid : Prop := fnAesUptoRow.holds Try.pinned (OpenSpec.upto fnAesSpec)

end Rows
end Go.Proofs.Ytcngjidojibleaa
