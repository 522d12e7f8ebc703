/-
  No cell of these rows narrows 'for every input' (looked for: loops, veiled, ifaces, maps, wideKeys, modest, calm, conditions, laid).
  DERIVED. THE GIVEN ROWS OF THIS SEAT. 3 by the template 'for every input the law returns true; each argument reads behind the call as it read before'; 0 by the template 'total and deterministic' (their statements: YtakemokmdlogoaaTotals.lean).
  GIVEN WITH THE SEED: the statements are not yours to turn. If you find one false, say at which input.
  Laid BY PROGRAM, IN A SANDBOX (cutbox-rows.mjs): the forced cells as the released guide's own fill.sh prints them over the translation 60db521095e10bf7… (all of the seat's roots in one cut). By AI agents, Wed Nov 11 2026. No macro, syntax, notation, axiom, sorry.
-/
import Derived.Test.YtakemokmdlogoaaChecked
import GoSem.Claim
import GoSem.ClaimJoined
import GoSem.ClaimMapViews
import Derived.JoinedTies
import Derived.KernelRfl
namespace Go.Proofs.Ytakemokmdlogoaa
/- THE CELL 'sum', in the pinned program and in every row, IS THE sha256 OF THE DUMP (.gsa) THAT YtakemokmdlogoaaProg.lean LOADS. Nothing in Lean hashes anything: it is a label: what it is worth is what the hold of that sum in a sandbox is worth. -/
noncomputable def Try.pinned : Pinned := { name := "ytakemokmdlogoaa", sum := "60db521095e10bf76ab3cef26d450a971b7186953b52b61f3ba38b0e67cd713d", checked := Try.checked }
namespace Rows
def none {H : Type} : Left H := { results := [], args := [] }

/-- 'laws.FnTokens': WHATEVER THE INPUT: true; the input reads as it did. -/
def fnTokensSpec : ChangeSpec := { name := "fnTokens", fn := fun _ => fun
  | [d1, d2] => { results := [.lit (.bool true)], args := [d1, d2] }
  | _ => none }
def fnTokensRow : OpenClaim := { program := "ytakemokmdlogoaa", sum := "60db521095e10bf76ab3cef26d450a971b7186953b52b61f3ba38b0e67cd713d", func := "loop.example/g00206/laws.FnTokens", spec := "fnTokens", inPlace := ["internal/abi.NoEscape", "internal/bytealg.MakeNoZero"], unfollowed := true, recurses := true, apart := false }
def FnTokensSaid : Prop := fnTokensRow.holds Try.pinned (OpenSpec.ofChange fnTokensSpec)

/-- ITS FALSE NEIGHBOUR: 'it returns false'. Refute it at one input. -/
def fnTokensWrong : ChangeSpec := { name := "fnTokens", fn := fun _ => fun
  | [d1, d2] => { results := [.lit (.bool false)], args := [d1, d2] }
  | _ => none }
def FnTokensWrongFalsely : Prop := fnTokensRow.holds Try.pinned (OpenSpec.ofChange fnTokensWrong)

/-- 'laws.FnSealed': WHATEVER THE INPUT: true; the input reads as it did. -/
def fnSealedSpec : ChangeSpec := { name := "fnSealed", fn := fun _ => fun
  | [d1, d2] => { results := [.lit (.bool true)], args := [d1, d2] }
  | _ => none }
def fnSealedRow : OpenClaim := { program := "ytakemokmdlogoaa", sum := "60db521095e10bf76ab3cef26d450a971b7186953b52b61f3ba38b0e67cd713d", func := "loop.example/g00206/laws.FnSealed", spec := "fnSealed", inPlace := ["internal/abi.NoEscape", "internal/bytealg.MakeNoZero"], apart := false }
def FnSealedSaid : Prop := fnSealedRow.holds Try.pinned (OpenSpec.ofChange fnSealedSpec)

/-- ITS FALSE NEIGHBOUR: 'it returns false'. Refute it at one input. -/
def fnSealedWrong : ChangeSpec := { name := "fnSealed", fn := fun _ => fun
  | [d1, d2] => { results := [.lit (.bool false)], args := [d1, d2] }
  | _ => none }
def FnSealedWrongFalsely : Prop := fnSealedRow.holds Try.pinned (OpenSpec.ofChange fnSealedWrong)

/-- 'laws.FnExactRetryTag': WHATEVER THE INPUT: true; the input reads as it did. -/
def fnExactRetryTagSpec : ChangeSpec := { name := "fnExactRetryTag", fn := fun _ => fun
  | [d1, d2] => { results := [.lit (.bool true)], args := [d1, d2] }
  | _ => none }
def fnExactRetryTagRow : OpenClaim := { program := "ytakemokmdlogoaa", sum := "60db521095e10bf76ab3cef26d450a971b7186953b52b61f3ba38b0e67cd713d", func := "loop.example/g00206/laws.FnExactRetryTag", spec := "fnExactRetryTag", inPlace := ["internal/bytealg.IndexByteString", "internal/abi.NoEscape", "internal/bytealg.MakeNoZero"], apart := false }
def FnExactRetryTagSaid : Prop := fnExactRetryTagRow.holds Try.pinned (OpenSpec.ofChange fnExactRetryTagSpec)

/-- ITS FALSE NEIGHBOUR: 'it returns false'. Refute it at one input. -/
def fnExactRetryTagWrong : ChangeSpec := { name := "fnExactRetryTag", fn := fun _ => fun
  | [d1, d2] => { results := [.lit (.bool false)], args := [d1, d2] }
  | _ => none }
def FnExactRetryTagWrongFalsely : Prop := fnExactRetryTagRow.holds Try.pinned (OpenSpec.ofChange fnExactRetryTagWrong)

/- THE SECOND FORM. 'bulk': how many values and letters a reading holds, each counted each time it is reached (what is shared counts as often as it is met; a slice's spare places count too). A statement '..UptoSaid' is the law's where the arguments, and the package variables that the reading takes, are together of bulk at most 1048576: NARROWER than '..Said'. Prove '..Said' where nothing that the law and all that it calls make is longer than what came in: it says more and counts as full. Else prove '..UptoSaid'. A law counts once. -/
mutual
def uptoBulk {H : Type} : DataW H → Nat
  | .lit (.string bytes) => bytes.length + 1
  | .lit _ => 1
  | .nil => 1
  | .ptr d => uptoBulk d + 1
  | .slice elems spare => uptoBulkAll elems + uptoBulkAll spare + 1
  | .agg parts => uptoBulkAll parts + 1
  | .iface _ d => uptoBulk d + 1
  | .map entries => uptoBulkEntries entries + 1
  | .held _ => 1
def uptoBulkAll {H : Type} : List (DataW H) → Nat
  | [] => 0
  | d :: r => uptoBulk d + uptoBulkAll r
def uptoBulkEntries {H : Type} : List (Lit × DataW H) → Nat
  | [] => 0
  | x :: r => uptoBulkEntry x + uptoBulkEntries r
def uptoBulkEntry {H : Type} : Lit × DataW H → Nat
  | (.string bytes, d) => bytes.length + uptoBulk d + 1
  | (_, d) => uptoBulk d + 1
 end
def uptoSmall : (H : Type) → List (DataW H) → Bool := fun _ ds => decide (uptoBulkAll ds ≤ 1048576)
def OpenSpec.upto (s : _root_.Go.ChangeSpec) : _root_.Go.OpenSpec := { _root_.Go.OpenSpec.ofChange s with cond := some uptoSmall }

/-- 'laws.FnTokens', WHERE WHAT IT READS IS OF BULK AT MOST 1048576: true; the input reads as it did. -/
def fnTokensUptoRow : OpenClaim := { program := "ytakemokmdlogoaa", sum := "60db521095e10bf76ab3cef26d450a971b7186953b52b61f3ba38b0e67cd713d", func := "loop.example/g00206/laws.FnTokens", spec := "fnTokens", inPlace := ["internal/abi.NoEscape", "internal/bytealg.MakeNoZero"], unfollowed := true, recurses := true, apart := false, narrowed := true }
def FnTokensUptoSaid : Prop := fnTokensUptoRow.holds Try.pinned (OpenSpec.upto fnTokensSpec)

/-- 'laws.FnSealed', WHERE WHAT IT READS IS OF BULK AT MOST 1048576: true; the input reads as it did. -/
def fnSealedUptoRow : OpenClaim := { program := "ytakemokmdlogoaa", sum := "60db521095e10bf76ab3cef26d450a971b7186953b52b61f3ba38b0e67cd713d", func := "loop.example/g00206/laws.FnSealed", spec := "fnSealed", inPlace := ["internal/abi.NoEscape", "internal/bytealg.MakeNoZero"], apart := false, narrowed := true }
def FnSealedUptoSaid : Prop := fnSealedUptoRow.holds Try.pinned (OpenSpec.upto fnSealedSpec)

/-- 'laws.FnExactRetryTag', WHERE WHAT IT READS IS OF BULK AT MOST 1048576: true; the input reads as it did. -/
def fnExactRetryTagUptoRow : OpenClaim := { program := "ytakemokmdlogoaa", sum := "60db521095e10bf76ab3cef26d450a971b7186953b52b61f3ba38b0e67cd713d", func := "loop.example/g00206/laws.FnExactRetryTag", spec := "fnExactRetryTag", inPlace := ["internal/bytealg.IndexByteString", "internal/abi.NoEscape", "internal/bytealg.MakeNoZero"], apart := false, narrowed := true }
def FnExactRetryTagUptoSaid : Prop := fnExactRetryTagUptoRow.holds Try.pinned (OpenSpec.upto fnExactRetryTagSpec)

end Rows
end Go.Proofs.Ytakemokmdlogoaa
