/-
  No cell of these rows narrows 'for every input' (looked for: loops, veiled, ifaces, maps, wideKeys, modest, calm, conditions, laid).
  DERIVED. THE GIVEN ROWS OF THIS SEAT. 6 by the template 'for every input the law returns true; each argument reads behind the call as it read before'; 0 by the template 'total and deterministic' (their statements: YtknoemdkfhkkhaaTotals.lean).
  GIVEN WITH THE SEED: the statements are not yours to turn. If you find one false, say at which input.
  Laid BY PROGRAM, IN A SANDBOX (cutbox-rows.mjs): the forced cells as the released guide's own fill.sh prints them over the translation 18ca4e80865fc3b0… (all of the seat's roots in one cut). By AI agents, Wed Nov 11 2026. No macro, syntax, notation, axiom, sorry.
-/
import Derived.Test.YtknoemdkfhkkhaaChecked
import GoSem.Claim
import GoSem.ClaimJoined
import GoSem.ClaimMapViews
import Derived.JoinedTies
import Derived.KernelRfl
namespace Go.Proofs.Ytknoemdkfhkkhaa
/- THE CELL 'sum', in the pinned program and in every row, IS THE sha256 OF THE DUMP (.gsa) THAT YtknoemdkfhkkhaaProg.lean LOADS. Nothing in Lean hashes anything: it is a label: what it is worth is what the hold of that sum in a sandbox is worth. -/
noncomputable def Try.pinned : Pinned := { name := "ytknoemdkfhkkhaa", sum := "18ca4e80865fc3b049009bd5394ddc7fec845823a131b2cda6543f490069de6e", checked := Try.checked }
namespace Rows
def none {H : Type} : Left H := { results := [], args := [] }

/-- 'laws.FnFeistel': WHATEVER THE INPUT: true; the input reads as it did. -/
def fnFeistelSpec : ChangeSpec := { name := "fnFeistel", fn := fun _ => fun
  | [d1, d2] => { results := [.lit (.bool true)], args := [d1, d2] }
  | _ => none }
def fnFeistelRow : OpenClaim := { program := "ytknoemdkfhkkhaa", sum := "18ca4e80865fc3b049009bd5394ddc7fec845823a131b2cda6543f490069de6e", func := "loop.example/g00206/laws.FnFeistel", spec := "fnFeistel", inPlace := ["internal/abi.NoEscape", "internal/bytealg.MakeNoZero"], apart := false }
def FnFeistelSaid : Prop := fnFeistelRow.holds Try.pinned (OpenSpec.ofChange fnFeistelSpec)

/-- ITS FALSE NEIGHBOUR: 'it returns false'. Refute it at one input. -/
def fnFeistelWrong : ChangeSpec := { name := "fnFeistel", fn := fun _ => fun
  | [d1, d2] => { results := [.lit (.bool false)], args := [d1, d2] }
  | _ => none }
def FnFeistelWrongFalsely : Prop := fnFeistelRow.holds Try.pinned (OpenSpec.ofChange fnFeistelWrong)

/-- 'laws.FnHashed': WHATEVER THE INPUT: true; the input reads as it did. -/
def fnHashedSpec : ChangeSpec := { name := "fnHashed", fn := fun _ => fun
  | [d] => { results := [.lit (.bool true)], args := [d] }
  | _ => none }
def fnHashedRow : OpenClaim := { program := "ytknoemdkfhkkhaa", sum := "18ca4e80865fc3b049009bd5394ddc7fec845823a131b2cda6543f490069de6e", func := "loop.example/g00206/laws.FnHashed", spec := "fnHashed", inPlace := ["internal/abi.NoEscape", "internal/bytealg.MakeNoZero", "math.sqrt", "math.Float64bits", "math.Float64frombits"], unfollowed := true, recurses := true, apart := false }
def FnHashedSaid : Prop := fnHashedRow.holds Try.pinned (OpenSpec.ofChange fnHashedSpec)

/-- ITS FALSE NEIGHBOUR: 'it returns false'. Refute it at one input. -/
def fnHashedWrong : ChangeSpec := { name := "fnHashed", fn := fun _ => fun
  | [d] => { results := [.lit (.bool false)], args := [d] }
  | _ => none }
def FnHashedWrongFalsely : Prop := fnHashedRow.holds Try.pinned (OpenSpec.ofChange fnHashedWrong)

/-- 'laws.FnKeyed': WHATEVER THE INPUT: true; the input reads as it did. -/
def fnKeyedSpec : ChangeSpec := { name := "fnKeyed", fn := fun _ => fun
  | [d] => { results := [.lit (.bool true)], args := [d] }
  | _ => none }
def fnKeyedRow : OpenClaim := { program := "ytknoemdkfhkkhaa", sum := "18ca4e80865fc3b049009bd5394ddc7fec845823a131b2cda6543f490069de6e", func := "loop.example/g00206/laws.FnKeyed", spec := "fnKeyed", inPlace := ["internal/abi.NoEscape", "internal/bytealg.MakeNoZero", "math.sqrt", "math.Float64bits", "math.Float64frombits"], unfollowed := true, recurses := true, apart := false }
def FnKeyedSaid : Prop := fnKeyedRow.holds Try.pinned (OpenSpec.ofChange fnKeyedSpec)

/-- ITS FALSE NEIGHBOUR: 'it returns false'. Refute it at one input. -/
def fnKeyedWrong : ChangeSpec := { name := "fnKeyed", fn := fun _ => fun
  | [d] => { results := [.lit (.bool false)], args := [d] }
  | _ => none }
def FnKeyedWrongFalsely : Prop := fnKeyedRow.holds Try.pinned (OpenSpec.ofChange fnKeyedWrong)

/-- 'laws.FnExactInitialSecrets': WHATEVER THE INPUT: true; the input reads as it did. -/
def fnExactInitialSecretsSpec : ChangeSpec := { name := "fnExactInitialSecrets", fn := fun _ => fun
  | [d] => { results := [.lit (.bool true)], args := [d] }
  | _ => none }
def fnExactInitialSecretsRow : OpenClaim := { program := "ytknoemdkfhkkhaa", sum := "18ca4e80865fc3b049009bd5394ddc7fec845823a131b2cda6543f490069de6e", func := "loop.example/g00206/laws.FnExactInitialSecrets", spec := "fnExactInitialSecrets", inPlace := ["internal/bytealg.IndexByteString", "internal/abi.NoEscape", "internal/bytealg.MakeNoZero", "math.sqrt", "math.Float64bits", "math.Float64frombits"], unfollowed := true, recurses := true, apart := false }
def FnExactInitialSecretsSaid : Prop := fnExactInitialSecretsRow.holds Try.pinned (OpenSpec.ofChange fnExactInitialSecretsSpec)

/-- ITS FALSE NEIGHBOUR: 'it returns false'. Refute it at one input. -/
def fnExactInitialSecretsWrong : ChangeSpec := { name := "fnExactInitialSecrets", fn := fun _ => fun
  | [d] => { results := [.lit (.bool false)], args := [d] }
  | _ => none }
def FnExactInitialSecretsWrongFalsely : Prop := fnExactInitialSecretsRow.holds Try.pinned (OpenSpec.ofChange fnExactInitialSecretsWrong)

/-- 'laws.FnIds': WHATEVER THE INPUT: true; the input reads as it did. -/
def fnIdsSpec : ChangeSpec := { name := "fnIds", fn := fun _ => fun
  | [d] => { results := [.lit (.bool true)], args := [d] }
  | _ => none }
def fnIdsRow : OpenClaim := { program := "ytknoemdkfhkkhaa", sum := "18ca4e80865fc3b049009bd5394ddc7fec845823a131b2cda6543f490069de6e", func := "loop.example/g00206/laws.FnIds", spec := "fnIds", inPlace := ["internal/abi.NoEscape", "internal/bytealg.MakeNoZero"], apart := false }
def FnIdsSaid : Prop := fnIdsRow.holds Try.pinned (OpenSpec.ofChange fnIdsSpec)

/-- ITS FALSE NEIGHBOUR: 'it returns false'. Refute it at one input. -/
def fnIdsWrong : ChangeSpec := { name := "fnIds", fn := fun _ => fun
  | [d] => { results := [.lit (.bool false)], args := [d] }
  | _ => none }
def FnIdsWrongFalsely : Prop := fnIdsRow.holds Try.pinned (OpenSpec.ofChange fnIdsWrong)

/-- 'laws.FnDerived': WHATEVER THE INPUT: true; the input reads as it did. -/
def fnDerivedSpec : ChangeSpec := { name := "fnDerived", fn := fun _ => fun
  | [d1, d2] => { results := [.lit (.bool true)], args := [d1, d2] }
  | _ => none }
def fnDerivedRow : OpenClaim := { program := "ytknoemdkfhkkhaa", sum := "18ca4e80865fc3b049009bd5394ddc7fec845823a131b2cda6543f490069de6e", func := "loop.example/g00206/laws.FnDerived", spec := "fnDerived", inPlace := ["internal/abi.NoEscape", "internal/bytealg.MakeNoZero", "math.sqrt", "math.Float64bits", "math.Float64frombits", "internal/bytealg.IndexByteString"], unfollowed := true, recurses := true, apart := false }
def FnDerivedSaid : Prop := fnDerivedRow.holds Try.pinned (OpenSpec.ofChange fnDerivedSpec)

/-- ITS FALSE NEIGHBOUR: 'it returns false'. Refute it at one input. -/
def fnDerivedWrong : ChangeSpec := { name := "fnDerived", fn := fun _ => fun
  | [d1, d2] => { results := [.lit (.bool false)], args := [d1, d2] }
  | _ => none }
def FnDerivedWrongFalsely : Prop := fnDerivedRow.holds Try.pinned (OpenSpec.ofChange fnDerivedWrong)

/- THE SECOND FORM. 'bulk': how many values and letters a reading holds, each counted each time it is reached (what is shared counts as often as it is met; a slice's spare places count too). A statement '..UptoSaid' is the law's where the arguments, and the package variables that the reading takes, are together of bulk at most 1048576: NARROWER than '..Said'. Prove '..Said' where nothing that the law and all that it calls make is longer than what came in: it says more and counts as full. Else prove '..UptoSaid'. A law counts once. -/
mutual
def uptoBulk {H : Type} : DataW H → Nat
  | .lit (.string bytes) => bytes.length + 1
  | .lit _ => 1
  | .nil => 1
  | .ptr d => uptoBulk d + 1
  | .slice elems spare => uptoBulkAll elems + uptoBulkAll spare + 1
  | .agg parts => uptoBulkAll parts + 1
  | .iface _ d => uptoBulk d + 1
  | .map entries => uptoBulkEntries entries + 1
  | .held _ => 1
def uptoBulkAll {H : Type} : List (DataW H) → Nat
  | [] => 0
  | d :: r => uptoBulk d + uptoBulkAll r
def uptoBulkEntries {H : Type} : List (Lit × DataW H) → Nat
  | [] => 0
  | x :: r => uptoBulkEntry x + uptoBulkEntries r
def uptoBulkEntry {H : Type} : Lit × DataW H → Nat
  | (.string bytes, d) => bytes.length + uptoBulk d + 1
  | (_, d) => uptoBulk d + 1
 end
def uptoSmall : (H : Type) → List (DataW H) → Bool := fun _ ds => decide (uptoBulkAll ds ≤ 1048576)
def OpenSpec.upto (s : _root_.Go.ChangeSpec) : _root_.Go.OpenSpec := { _root_.Go.OpenSpec.ofChange s with cond := some uptoSmall }

/-- 'laws.FnFeistel', WHERE WHAT IT READS IS OF BULK AT MOST 1048576: true; the input reads as it did. -/
def fnFeistelUptoRow : OpenClaim := { program := "ytknoemdkfhkkhaa", sum := "18ca4e80865fc3b049009bd5394ddc7fec845823a131b2cda6543f490069de6e", func := "loop.example/g00206/laws.FnFeistel", spec := "fnFeistel", inPlace := ["internal/abi.NoEscape", "internal/bytealg.MakeNoZero"], apart := false, narrowed := true }
def FnFeistelUptoSaid : Prop := fnFeistelUptoRow.holds Try.pinned (OpenSpec.upto fnFeistelSpec)

/-- 'laws.FnHashed', WHERE WHAT IT READS IS OF BULK AT MOST 1048576: true; the input reads as it did. -/
def fnHashedUptoRow : OpenClaim := { program := "ytknoemdkfhkkhaa", sum := "18ca4e80865fc3b049009bd5394ddc7fec845823a131b2cda6543f490069de6e", func := "loop.example/g00206/laws.FnHashed", spec := "fnHashed", inPlace := ["internal/abi.NoEscape", "internal/bytealg.MakeNoZero", "math.sqrt", "math.Float64bits", "math.Float64frombits"], unfollowed := true, recurses := true, apart := false, narrowed := true }
def FnHashedUptoSaid : Prop := fnHashedUptoRow.holds Try.pinned (OpenSpec.upto fnHashedSpec)

/-- 'laws.FnKeyed', WHERE WHAT IT READS IS OF BULK AT MOST 1048576: true; the input reads as it did. -/
def fnKeyedUptoRow : OpenClaim := { program := "ytknoemdkfhkkhaa", sum := "18ca4e80865fc3b049009bd5394ddc7fec845823a131b2cda6543f490069de6e", func := "loop.example/g00206/laws.FnKeyed", spec := "fnKeyed", inPlace := ["internal/abi.NoEscape", "internal/bytealg.MakeNoZero", "math.sqrt", "math.Float64bits", "math.Float64frombits"], unfollowed := true, recurses := true, apart := false, narrowed := true }
def FnKeyedUptoSaid : Prop := fnKeyedUptoRow.holds Try.pinned (OpenSpec.upto fnKeyedSpec)

/-- 'laws.FnExactInitialSecrets', WHERE WHAT IT READS IS OF BULK AT MOST 1048576: true; the input reads as it did. -/
def fnExactInitialSecretsUptoRow : OpenClaim := { program := "ytknoemdkfhkkhaa", sum := "18ca4e80865fc3b049009bd5394ddc7fec845823a131b2cda6543f490069de6e", func := "loop.example/g00206/laws.FnExactInitialSecrets", spec := "fnExactInitialSecrets", inPlace := ["internal/bytealg.IndexByteString", "internal/abi.NoEscape", "internal/bytealg.MakeNoZero", "math.sqrt", "math.Float64bits", "math.Float64frombits"], unfollowed := true, recurses := true, apart := false, narrowed := true }
def FnExactInitialSecretsUptoSaid : Prop := fnExactInitialSecretsUptoRow.holds Try.pinned (OpenSpec.upto fnExactInitialSecretsSpec)

/-- 'laws.FnIds', WHERE WHAT IT READS IS OF BULK AT MOST 1048576: true; the input reads as it did. -/
def fnIdsUptoRow : OpenClaim := { program := "ytknoemdkfhkkhaa", sum := "18ca4e80865fc3b049009bd5394ddc7fec845823a131b2cda6543f490069de6e", func := "loop.example/g00206/laws.FnIds", spec := "fnIds", inPlace := ["internal/abi.NoEscape", "internal/bytealg.MakeNoZero"], apart := false, narrowed := true }
def FnIdsUptoSaid : Prop := fnIdsUptoRow.holds Try.pinned (OpenSpec.upto fnIdsSpec)

/-- 'laws.FnDerived', WHERE WHAT IT READS IS OF BULK AT MOST 1048576: true; the input reads as it did. -/
def fnDerivedUptoRow : OpenClaim := { program := "ytknoemdkfhkkhaa", sum := "18ca4e80865fc3b049009bd5394ddc7fec845823a131b2cda6543f490069de6e", func := "loop.example/g00206/laws.FnDerived", spec := "fnDerived", inPlace := ["internal/abi.NoEscape", "internal/bytealg.MakeNoZero", "math.sqrt", "math.Float64bits", "math.Float64frombits", "internal/bytealg.IndexByteString"], unfollowed := true, recurses := true, apart := false, narrowed := true }
def FnDerivedUptoSaid : Prop := fnDerivedUptoRow.holds Try.pinned (OpenSpec.upto fnDerivedSpec)

end Rows
end Go.Proofs.Ytknoemdkfhkkhaa
