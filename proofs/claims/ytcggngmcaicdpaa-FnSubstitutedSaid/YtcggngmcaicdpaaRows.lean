/-
  No cell of these rows narrows 'for every input' (looked for: loops, veiled, ifaces, maps, wideKeys, modest, calm, conditions, laid).
  DERIVED. THE GIVEN ROWS OF THIS SEAT. 6 by the template 'for every input the law returns true; each argument reads behind the call as it read before'; 0 by the template 'total and deterministic' (their statements: YtcggngmcaicdpaaTotals.lean).
  GIVEN WITH THE SEED: the statements are not yours to turn. If you find one false, say at which input.
  Laid BY PROGRAM, IN A SANDBOX (cutbox-rows.mjs): the forced cells as the released guide's own fill.sh prints them over the translation ea40fc8af6622d80… (all of the seat's roots in one cut). By AI agents, Wed Nov 11 2026. No macro, syntax, notation, axiom, sorry.
-/
import Derived.Test.YtcggngmcaicdpaaChecked
import GoSem.Claim
import GoSem.ClaimJoined
import GoSem.ClaimMapViews
import Derived.JoinedTies
import Derived.KernelRfl
namespace Go.Proofs.Ytcggngmcaicdpaa
/- THE CELL 'sum', in the pinned program and in every row, IS THE sha256 OF THE DUMP (.gsa) THAT YtcggngmcaicdpaaProg.lean LOADS. Nothing in Lean hashes anything: it is a label: what it is worth is what the hold of that sum in a sandbox is worth. -/
noncomputable def Try.pinned : Pinned := { name := "ytcggngmcaicdpaa", sum := "ea40fc8af6622d80c32977e62cbbc094c0427cb5e138077fc3262b16bb08f0f4", checked := Try.checked }
namespace Rows
def none {H : Type} : Left H := { results := [], args := [] }

/-- 'laws.FnExactHexText': WHATEVER THE INPUT: true; the input reads as it did. -/
def fnExactHexTextSpec : ChangeSpec := { name := "fnExactHexText", fn := fun _ => fun
  | [d] => { results := [.lit (.bool true)], args := [d] }
  | _ => none }
def fnExactHexTextRow : OpenClaim := { program := "ytcggngmcaicdpaa", sum := "ea40fc8af6622d80c32977e62cbbc094c0427cb5e138077fc3262b16bb08f0f4", func := "loop.example/g00206/laws.FnExactHexText", spec := "fnExactHexText", apart := false }
def FnExactHexTextSaid : Prop := fnExactHexTextRow.holds Try.pinned (OpenSpec.ofChange fnExactHexTextSpec)

/-- ITS FALSE NEIGHBOUR: 'it returns false'. Refute it at one input. -/
def fnExactHexTextWrong : ChangeSpec := { name := "fnExactHexText", fn := fun _ => fun
  | [d] => { results := [.lit (.bool false)], args := [d] }
  | _ => none }
def FnExactHexTextWrongFalsely : Prop := fnExactHexTextRow.holds Try.pinned (OpenSpec.ofChange fnExactHexTextWrong)

/-- 'laws.FnExactReadHex': WHATEVER THE INPUT: true; the input reads as it did. -/
def fnExactReadHexSpec : ChangeSpec := { name := "fnExactReadHex", fn := fun _ => fun
  | [d] => { results := [.lit (.bool true)], args := [d] }
  | _ => none }
def fnExactReadHexRow : OpenClaim := { program := "ytcggngmcaicdpaa", sum := "ea40fc8af6622d80c32977e62cbbc094c0427cb5e138077fc3262b16bb08f0f4", func := "loop.example/g00206/laws.FnExactReadHex", spec := "fnExactReadHex", inPlace := ["internal/bytealg.IndexByteString"], apart := false }
def FnExactReadHexSaid : Prop := fnExactReadHexRow.holds Try.pinned (OpenSpec.ofChange fnExactReadHexSpec)

/-- ITS FALSE NEIGHBOUR: 'it returns false'. Refute it at one input. -/
def fnExactReadHexWrong : ChangeSpec := { name := "fnExactReadHex", fn := fun _ => fun
  | [d] => { results := [.lit (.bool false)], args := [d] }
  | _ => none }
def FnExactReadHexWrongFalsely : Prop := fnExactReadHexRow.holds Try.pinned (OpenSpec.ofChange fnExactReadHexWrong)

/-- 'laws.FnExactReadCarried': WHATEVER THE INPUT: true; the input reads as it did. -/
def fnExactReadCarriedSpec : ChangeSpec := { name := "fnExactReadCarried", fn := fun _ => fun
  | [d] => { results := [.lit (.bool true)], args := [d] }
  | _ => none }
def fnExactReadCarriedRow : OpenClaim := { program := "ytcggngmcaicdpaa", sum := "ea40fc8af6622d80c32977e62cbbc094c0427cb5e138077fc3262b16bb08f0f4", func := "loop.example/g00206/laws.FnExactReadCarried", spec := "fnExactReadCarried", apart := false }
def FnExactReadCarriedSaid : Prop := fnExactReadCarriedRow.holds Try.pinned (OpenSpec.ofChange fnExactReadCarriedSpec)

/-- ITS FALSE NEIGHBOUR: 'it returns false'. Refute it at one input. -/
def fnExactReadCarriedWrong : ChangeSpec := { name := "fnExactReadCarried", fn := fun _ => fun
  | [d] => { results := [.lit (.bool false)], args := [d] }
  | _ => none }
def FnExactReadCarriedWrongFalsely : Prop := fnExactReadCarriedRow.holds Try.pinned (OpenSpec.ofChange fnExactReadCarriedWrong)

/-- 'laws.FnGalois': WHATEVER THE INPUT: true; the input reads as it did. -/
def fnGaloisSpec : ChangeSpec := { name := "fnGalois", fn := fun _ => fun
  | [d1, d2] => { results := [.lit (.bool true)], args := [d1, d2] }
  | _ => none }
def fnGaloisRow : OpenClaim := { program := "ytcggngmcaicdpaa", sum := "ea40fc8af6622d80c32977e62cbbc094c0427cb5e138077fc3262b16bb08f0f4", func := "loop.example/g00206/laws.FnGalois", spec := "fnGalois", apart := false }
def FnGaloisSaid : Prop := fnGaloisRow.holds Try.pinned (OpenSpec.ofChange fnGaloisSpec)

/-- ITS FALSE NEIGHBOUR: 'it returns false'. Refute it at one input. -/
def fnGaloisWrong : ChangeSpec := { name := "fnGalois", fn := fun _ => fun
  | [d1, d2] => { results := [.lit (.bool false)], args := [d1, d2] }
  | _ => none }
def FnGaloisWrongFalsely : Prop := fnGaloisRow.holds Try.pinned (OpenSpec.ofChange fnGaloisWrong)

/-- 'laws.FnSubstituted': WHATEVER THE INPUT: true; the input reads as it did. -/
def fnSubstitutedSpec : ChangeSpec := { name := "fnSubstituted", fn := fun _ => fun
  | [d] => { results := [.lit (.bool true)], args := [d] }
  | _ => none }
def fnSubstitutedRow : OpenClaim := { program := "ytcggngmcaicdpaa", sum := "ea40fc8af6622d80c32977e62cbbc094c0427cb5e138077fc3262b16bb08f0f4", func := "loop.example/g00206/laws.FnSubstituted", spec := "fnSubstituted", apart := false }
def FnSubstitutedSaid : Prop := fnSubstitutedRow.holds Try.pinned (OpenSpec.ofChange fnSubstitutedSpec)

/-- ITS FALSE NEIGHBOUR: 'it returns false'. Refute it at one input. -/
def fnSubstitutedWrong : ChangeSpec := { name := "fnSubstituted", fn := fun _ => fun
  | [d] => { results := [.lit (.bool false)], args := [d] }
  | _ => none }
def FnSubstitutedWrongFalsely : Prop := fnSubstitutedRow.holds Try.pinned (OpenSpec.ofChange fnSubstitutedWrong)

/-- 'laws.FnRtt': WHATEVER THE INPUT: true; the input reads as it did. -/
def fnRttSpec : ChangeSpec := { name := "fnRtt", fn := fun _ => fun
  | [d1, d2] => { results := [.lit (.bool true)], args := [d1, d2] }
  | _ => none }
def fnRttRow : OpenClaim := { program := "ytcggngmcaicdpaa", sum := "ea40fc8af6622d80c32977e62cbbc094c0427cb5e138077fc3262b16bb08f0f4", func := "loop.example/g00206/laws.FnRtt", spec := "fnRtt", apart := false }
def FnRttSaid : Prop := fnRttRow.holds Try.pinned (OpenSpec.ofChange fnRttSpec)

/-- ITS FALSE NEIGHBOUR: 'it returns false'. Refute it at one input. -/
def fnRttWrong : ChangeSpec := { name := "fnRtt", fn := fun _ => fun
  | [d1, d2] => { results := [.lit (.bool false)], args := [d1, d2] }
  | _ => none }
def FnRttWrongFalsely : Prop := fnRttRow.holds Try.pinned (OpenSpec.ofChange fnRttWrong)

/- THE SECOND FORM. 'bulk': how many values and letters a reading holds, each counted each time it is reached (what is shared counts as often as it is met; a slice's spare places count too). A statement '..UptoSaid' is the law's where the arguments, and the package variables that the reading takes, are together of bulk at most 1048576: NARROWER than '..Said'. Prove '..Said' where nothing that the law and all that it calls make is longer than what came in: it says more and counts as full. Else prove '..UptoSaid'. A law counts once. -/
mutual
def uptoBulk {H : Type} : DataW H → Nat
  | .lit (.string bytes) => bytes.length + 1
  | .lit _ => 1
  | .nil => 1
  | .ptr d => uptoBulk d + 1
  | .slice elems spare => uptoBulkAll elems + uptoBulkAll spare + 1
  | .agg parts => uptoBulkAll parts + 1
  | .iface _ d => uptoBulk d + 1
  | .map entries => uptoBulkEntries entries + 1
  | .held _ => 1
def uptoBulkAll {H : Type} : List (DataW H) → Nat
  | [] => 0
  | d :: r => uptoBulk d + uptoBulkAll r
def uptoBulkEntries {H : Type} : List (Lit × DataW H) → Nat
  | [] => 0
  | x :: r => uptoBulkEntry x + uptoBulkEntries r
def uptoBulkEntry {H : Type} : Lit × DataW H → Nat
  | (.string bytes, d) => bytes.length + uptoBulk d + 1
  | (_, d) => uptoBulk d + 1
 end
def uptoSmall : (H : Type) → List (DataW H) → Bool := fun _ ds => decide (uptoBulkAll ds ≤ 1048576)
def OpenSpec.upto (s : _root_.Go.ChangeSpec) : _root_.Go.OpenSpec := { _root_.Go.OpenSpec.ofChange s with cond := some uptoSmall }

/-- 'laws.FnExactHexText', WHERE WHAT IT READS IS OF BULK AT MOST 1048576: true; the input reads as it did. -/
def fnExactHexTextUptoRow : OpenClaim := { program := "ytcggngmcaicdpaa", sum := "ea40fc8af6622d80c32977e62cbbc094c0427cb5e138077fc3262b16bb08f0f4", func := "loop.example/g00206/laws.FnExactHexText", spec := "fnExactHexText", apart := false, narrowed := true }
def FnExactHexTextUptoSaid : Prop := fnExactHexTextUptoRow.holds Try.pinned (OpenSpec.upto fnExactHexTextSpec)

/-- 'laws.FnExactReadHex', WHERE WHAT IT READS IS OF BULK AT MOST 1048576: true; the input reads as it did. -/
def fnExactReadHexUptoRow : OpenClaim := { program := "ytcggngmcaicdpaa", sum := "ea40fc8af6622d80c32977e62cbbc094c0427cb5e138077fc3262b16bb08f0f4", func := "loop.example/g00206/laws.FnExactReadHex", spec := "fnExactReadHex", inPlace := ["internal/bytealg.IndexByteString"], apart := false, narrowed := true }
def FnExactReadHexUptoSaid : Prop := fnExactReadHexUptoRow.holds Try.pinned (OpenSpec.upto fnExactReadHexSpec)

/-- 'laws.FnExactReadCarried', WHERE WHAT IT READS IS OF BULK AT MOST 1048576: true; the input reads as it did. -/
def fnExactReadCarriedUptoRow : OpenClaim := { program := "ytcggngmcaicdpaa", sum := "ea40fc8af6622d80c32977e62cbbc094c0427cb5e138077fc3262b16bb08f0f4", func := "loop.example/g00206/laws.FnExactReadCarried", spec := "fnExactReadCarried", apart := false, narrowed := true }
def FnExactReadCarriedUptoSaid : Prop := fnExactReadCarriedUptoRow.holds Try.pinned (OpenSpec.upto fnExactReadCarriedSpec)

/-- 'laws.FnGalois', WHERE WHAT IT READS IS OF BULK AT MOST 1048576: true; the input reads as it did. -/
def fnGaloisUptoRow : OpenClaim := { program := "ytcggngmcaicdpaa", sum := "ea40fc8af6622d80c32977e62cbbc094c0427cb5e138077fc3262b16bb08f0f4", func := "loop.example/g00206/laws.FnGalois", spec := "fnGalois", apart := false, narrowed := true }
def FnGaloisUptoSaid : Prop := fnGaloisUptoRow.holds Try.pinned (OpenSpec.upto fnGaloisSpec)

/-- 'laws.FnSubstituted', WHERE WHAT IT READS IS OF BULK AT MOST 1048576: true; the input reads as it did. -/
def fnSubstitutedUptoRow : OpenClaim := { program := "ytcggngmcaicdpaa", sum := "ea40fc8af6622d80c32977e62cbbc094c0427cb5e138077fc3262b16bb08f0f4", func := "loop.example/g00206/laws.FnSubstituted", spec := "fnSubstituted", apart := false, narrowed := true }
def FnSubstitutedUptoSaid : Prop := fnSubstitutedUptoRow.holds Try.pinned (OpenSpec.upto fnSubstitutedSpec)

/-- 'laws.FnRtt', WHERE WHAT IT READS IS OF BULK AT MOST 1048576: true; the input reads as it did. -/
def fnRttUptoRow : OpenClaim := { program := "ytcggngmcaicdpaa", sum := "ea40fc8af6622d80c32977e62cbbc094c0427cb5e138077fc3262b16bb08f0f4", func := "loop.example/g00206/laws.FnRtt", spec := "fnRtt", apart := false, narrowed := true }
def FnRttUptoSaid : Prop := fnRttUptoRow.holds Try.pinned (OpenSpec.upto fnRttSpec)

end Rows
end Go.Proofs.Ytcggngmcaicdpaa
