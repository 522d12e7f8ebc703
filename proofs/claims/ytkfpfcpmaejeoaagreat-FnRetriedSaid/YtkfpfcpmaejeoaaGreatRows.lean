/-
  No cell of these rows narrows 'for every input' (looked for: loops, veiled, ifaces, maps, wideKeys, modest, calm, conditions, laid).
  DERIVED. THE GIVEN ROWS OF THIS SEAT. 3 by the template 'for every input the law returns true; each argument reads behind the call as it read before'; 0 by the template 'total and deterministic' (their statements: YtkfpfcpmaejeoaaGreatTotals.lean).
  GIVEN WITH THE SEED: the statements are not yours to turn. If you find one false, say at which input.
  Laid BY PROGRAM, IN A SANDBOX (cutbox-rows.mjs): the forced cells as the released guide's own fill.sh prints them over the translation 83736e3eb2e3273d… (all of the seat's roots in one cut). By AI agents, Wed Nov 11 2026. No macro, syntax, notation, axiom, sorry.
-/
import Derived.Test.YtkfpfcpmaejeoaaGreatChecked
import GoSem.Claim
import GoSem.ClaimJoined
import GoSem.ClaimMapViews
import Derived.JoinedTies
import Derived.KernelRfl
namespace Go.Proofs.YtkfpfcpmaejeoaaGreat
/- THE CELL 'sum', in the pinned program and in every row, IS THE sha256 OF THE DUMP (.gsa) THAT YtkfpfcpmaejeoaaGreatProg.lean LOADS. Nothing in Lean hashes anything: it is a label: what it is worth is what the hold of that sum in a sandbox is worth. -/
noncomputable def Tryz.pinned : Pinned := { name := "ytkfpfcpmaejeoaagreat", sum := "83736e3eb2e3273d0b4fe36b97c6d782aed7b000aed3ea6b703cb7dd03838606", checked := Tryz.checked }
namespace Rows
def none {H : Type} : Left H := { results := [], args := [] }

/-- 'laws.FnExactRetryPacket': WHATEVER THE INPUT: true; the input reads as it did. -/
def fnExactRetryPacketSpec : ChangeSpec := { name := "fnExactRetryPacket", fn := fun _ => fun
  | [d1, d2, d3] => { results := [.lit (.bool true)], args := [d1, d2, d3] }
  | _ => none }
def fnExactRetryPacketRow : OpenClaim := { program := "ytkfpfcpmaejeoaagreat", sum := "83736e3eb2e3273d0b4fe36b97c6d782aed7b000aed3ea6b703cb7dd03838606", func := "loop.example/g00206/laws.FnExactRetryPacket", spec := "fnExactRetryPacket", inPlace := ["internal/bytealg.IndexByteString", "internal/abi.NoEscape", "internal/bytealg.MakeNoZero"], unfollowed := true, recurses := true, apart := false }
def FnExactRetryPacketSaid : Prop := fnExactRetryPacketRow.holds Tryz.pinned (OpenSpec.ofChange fnExactRetryPacketSpec)

/-- ITS FALSE NEIGHBOUR: 'it returns false'. Refute it at one input. -/
def fnExactRetryPacketWrong : ChangeSpec := { name := "fnExactRetryPacket", fn := fun _ => fun
  | [d1, d2, d3] => { results := [.lit (.bool false)], args := [d1, d2, d3] }
  | _ => none }
def FnExactRetryPacketWrongFalsely : Prop := fnExactRetryPacketRow.holds Tryz.pinned (OpenSpec.ofChange fnExactRetryPacketWrong)

/-- 'laws.FnRetried': WHATEVER THE INPUT: true; the input reads as it did. -/
def fnRetriedSpec : ChangeSpec := { name := "fnRetried", fn := fun _ => fun
  | [d] => { results := [.lit (.bool true)], args := [d] }
  | _ => none }
def fnRetriedRow : OpenClaim := { program := "ytkfpfcpmaejeoaagreat", sum := "83736e3eb2e3273d0b4fe36b97c6d782aed7b000aed3ea6b703cb7dd03838606", func := "loop.example/g00206/laws.FnRetried", spec := "fnRetried", inPlace := ["internal/bytealg.IndexByteString", "internal/abi.NoEscape", "internal/bytealg.MakeNoZero"], unfollowed := true, recurses := true, apart := false }
def FnRetriedSaid : Prop := fnRetriedRow.holds Tryz.pinned (OpenSpec.ofChange fnRetriedSpec)

/-- ITS FALSE NEIGHBOUR: 'it returns false'. Refute it at one input. -/
def fnRetriedWrong : ChangeSpec := { name := "fnRetried", fn := fun _ => fun
  | [d] => { results := [.lit (.bool false)], args := [d] }
  | _ => none }
def FnRetriedWrongFalsely : Prop := fnRetriedRow.holds Tryz.pinned (OpenSpec.ofChange fnRetriedWrong)

/-- 'laws.FnExactOpenPacket': WHATEVER THE INPUT: true; the input reads as it did. -/
def fnExactOpenPacketSpec : ChangeSpec := { name := "fnExactOpenPacket", fn := fun _ => fun
  | [d1, d2, d3, d4] => { results := [.lit (.bool true)], args := [d1, d2, d3, d4] }
  | _ => none }
def fnExactOpenPacketRow : OpenClaim := { program := "ytkfpfcpmaejeoaagreat", sum := "83736e3eb2e3273d0b4fe36b97c6d782aed7b000aed3ea6b703cb7dd03838606", func := "loop.example/g00206/laws.FnExactOpenPacket", spec := "fnExactOpenPacket", inPlace := ["internal/abi.NoEscape", "internal/bytealg.MakeNoZero"], unfollowed := true, recurses := true, apart := false }
def FnExactOpenPacketSaid : Prop := fnExactOpenPacketRow.holds Tryz.pinned (OpenSpec.ofChange fnExactOpenPacketSpec)

/-- ITS FALSE NEIGHBOUR: 'it returns false'. Refute it at one input. -/
def fnExactOpenPacketWrong : ChangeSpec := { name := "fnExactOpenPacket", fn := fun _ => fun
  | [d1, d2, d3, d4] => { results := [.lit (.bool false)], args := [d1, d2, d3, d4] }
  | _ => none }
def FnExactOpenPacketWrongFalsely : Prop := fnExactOpenPacketRow.holds Tryz.pinned (OpenSpec.ofChange fnExactOpenPacketWrong)

/- THE SECOND FORM. 'bulk': how many values and letters a reading holds, each counted each time it is reached (what is shared counts as often as it is met; a slice's spare places count too). A statement '..UptoSaid' is the law's where the arguments, and the package variables that the reading takes, are together of bulk at most 1048576: NARROWER than '..Said'. Prove '..Said' where nothing that the law and all that it calls make is longer than what came in: it says more and counts as full. Else prove '..UptoSaid'. A law counts once. -/
mutual
def uptoBulk {H : Type} : DataW H → Nat
  | .lit (.string bytes) => bytes.length + 1
  | .lit _ => 1
  | .nil => 1
  | .ptr d => uptoBulk d + 1
  | .slice elems spare => uptoBulkAll elems + uptoBulkAll spare + 1
  | .agg parts => uptoBulkAll parts + 1
  | .iface _ d => uptoBulk d + 1
  | .map entries => uptoBulkEntries entries + 1
  | .held _ => 1
def uptoBulkAll {H : Type} : List (DataW H) → Nat
  | [] => 0
  | d :: r => uptoBulk d + uptoBulkAll r
def uptoBulkEntries {H : Type} : List (Lit × DataW H) → Nat
  | [] => 0
  | x :: r => uptoBulkEntry x + uptoBulkEntries r
def uptoBulkEntry {H : Type} : Lit × DataW H → Nat
  | (.string bytes, d) => bytes.length + uptoBulk d + 1
  | (_, d) => uptoBulk d + 1
 end
def uptoSmall : (H : Type) → List (DataW H) → Bool := fun _ ds => decide (uptoBulkAll ds ≤ 1048576)
def OpenSpec.upto (s : _root_.Go.ChangeSpec) : _root_.Go.OpenSpec := { _root_.Go.OpenSpec.ofChange s with cond := some uptoSmall }

/-- 'laws.FnExactRetryPacket', WHERE WHAT IT READS IS OF BULK AT MOST 1048576: true; the input reads as it did. -/
def fnExactRetryPacketUptoRow : OpenClaim := { program := "ytkfpfcpmaejeoaagreat", sum := "83736e3eb2e3273d0b4fe36b97c6d782aed7b000aed3ea6b703cb7dd03838606", func := "loop.example/g00206/laws.FnExactRetryPacket", spec := "fnExactRetryPacket", inPlace := ["internal/bytealg.IndexByteString", "internal/abi.NoEscape", "internal/bytealg.MakeNoZero"], unfollowed := true, recurses := true, apart := false, narrowed := true }
def FnExactRetryPacketUptoSaid : Prop := fnExactRetryPacketUptoRow.holds Tryz.pinned (OpenSpec.upto fnExactRetryPacketSpec)

/-- 'laws.FnRetried', WHERE WHAT IT READS IS OF BULK AT MOST 1048576: true; the input reads as it did. -/
def fnRetriedUptoRow : OpenClaim := { program := "ytkfpfcpmaejeoaagreat", sum := "83736e3eb2e3273d0b4fe36b97c6d782aed7b000aed3ea6b703cb7dd03838606", func := "loop.example/g00206/laws.FnRetried", spec := "fnRetried", inPlace := ["internal/bytealg.IndexByteString", "internal/abi.NoEscape", "internal/bytealg.MakeNoZero"], unfollowed := true, recurses := true, apart := false, narrowed := true }
def FnRetriedUptoSaid : Prop := fnRetriedUptoRow.holds Tryz.pinned (OpenSpec.upto fnRetriedSpec)

/-- 'laws.FnExactOpenPacket', WHERE WHAT IT READS IS OF BULK AT MOST 1048576: true; the input reads as it did. -/
def fnExactOpenPacketUptoRow : OpenClaim := { program := "ytkfpfcpmaejeoaagreat", sum := "83736e3eb2e3273d0b4fe36b97c6d782aed7b000aed3ea6b703cb7dd03838606", func := "loop.example/g00206/laws.FnExactOpenPacket", spec := "fnExactOpenPacket", inPlace := ["internal/abi.NoEscape", "internal/bytealg.MakeNoZero"], unfollowed := true, recurses := true, apart := false, narrowed := true }
def FnExactOpenPacketUptoSaid : Prop := fnExactOpenPacketUptoRow.holds Tryz.pinned (OpenSpec.upto fnExactOpenPacketSpec)

end Rows
end Go.Proofs.YtkfpfcpmaejeoaaGreat
