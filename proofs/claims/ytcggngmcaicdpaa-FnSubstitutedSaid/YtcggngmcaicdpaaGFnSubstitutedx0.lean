-- Written by a program of this session out of the translation; Lean checks it.
import Derived.Test.YtcggngmcaicdpaaPmGen
import Derived.Test.YtcggngmcaicdpaaProg
set_option linter.unusedVariables false
namespace Go.Proofs.Ytcggngmcaicdpaa.GFnSubstituted
open Go Go.Proofs Go.Proofs.YtcggngmcaicdpaaPM

/-! ### (*loop.example/g00206/spec.l1Cur).next: function 69 -/
noncomputable def spec_l1Cur_next.H : Hints := hintsOf [(4, .join [⟨.normal, [], [0, 3], [.one (.ptr 0 0), ak_i], [.cells [.sh (.rows (.int .u8)), ck_i, .sh (.int .u64)]], [⟨[], [], []⟩]⟩])]
noncomputable def spec_l1Cur_next.says (N : Nat) : List Say := []
noncomputable def spec_l1Cur_next.call (N : Nat) : CallK := callBy (spec_l1Cur_next.says N)
noncomputable def spec_l1Cur_next.qt (N : Nat) : FuncId → List PV → Sig → Cl := qtBy (spec_l1Cur_next.says N)
noncomputable def spec_l1Cur_next (N : Nat) (p0_0 : (List Int)) (p0_1 : Int) (p0_2 : Int) : Option ((Int × Unit) × (((List Int) × (Int × (Int × Unit))) × Unit)) :=
  ofFn Try.prog spec_l1Cur_next.call spec_l1Cur_next.qt spec_l1Cur_next.H N Try.f69 [.one (.ptr 0 0)] [.cells [.sh (.rows (.int .u8)), ck_i, .sh (.int .u64)]] [ak_i] [.cells [.sh (.rows (.int .u8)), ck_i, .sh (.int .u64)]] [⟨[], [], []⟩] ((), ()) ((p0_0, (p0_1, (p0_2, ()))), ())
noncomputable def spec_l1Cur_next.S (N : Nat) : Say := ⟨false, 69, [.one (.ptr 0 0)], [.cells [.sh (.rows (.int .u8)), ck_i, .sh (.int .u64)]], [ak_i], [.cells [.sh (.rows (.int .u8)), ck_i, .sh (.int .u64)]], fun a s => spec_l1Cur_next N s.1.1 s.1.2.1 s.1.2.2.1⟩
set_option maxRecDepth 100000 in
theorem spec_l1Cur_next.eq (N : Nat) (p0_0 : (List Int)) (p0_1 : Int) (p0_2 : Int) : spec_l1Cur_next N p0_0 p0_1 p0_2 =
 andK (α := ((Unit × (Int × Unit)) × (((List Int) × (Int × (Int × Unit))) × Unit))) (
  sel (decide (p0_1 < (p0_0.length : Int)))
   (
   chk ((decide (0 ≤ p0_1)) && (decide (p0_1 < (p0_0.length : Int)))) (
   some ((((), ((IntKind.i64.wrap (p0_0.getD (Int.toNat p0_1) 0)), ())), ((p0_0, (p0_1, (p0_2, ()))), ())))))
   (
   some ((((), (0, ())), ((p0_0, (p0_1, (p0_2, ()))), ()))))) fun j1 =>
 sel (decide ((IntKind.i64.wrap (j1.2.1.2.1 + 1)) ≤ (j1.2.1.1.length : Int)))
  (
  some ((j1.1.2.1, ()), ((j1.2.1.1, ((IntKind.i64.wrap (j1.2.1.2.1 + 1)), ((IntKind.u64.wrap ((IntKind.u64.wrap ((IntKind.u64.wrap (j1.2.1.2.2.1 * 6364136223846793005)) + (IntKind.u64.wrap j1.1.2.1))) + 1442695040888963407)), ()))), ())))
  (
  some (((IntKind.i64.wrap (Go.bits .and .u64 (shrI .u64 (IntKind.u64.wrap ((IntKind.u64.wrap ((IntKind.u64.wrap (j1.2.1.2.2.1 * 6364136223846793005)) + (IntKind.u64.wrap j1.1.2.1))) + 1442695040888963407)) 40) 255)), ()), ((j1.2.1.1, ((IntKind.i64.wrap (j1.2.1.2.1 + 1)), ((IntKind.u64.wrap ((IntKind.u64.wrap ((IntKind.u64.wrap (j1.2.1.2.2.1 * 6364136223846793005)) + (IntKind.u64.wrap j1.1.2.1))) + 1442695040888963407)), ()))), ()))) := by kernel_rfl
set_option maxRecDepth 100000 in
theorem spec_l1Cur_next.say (N : Nat) : SayOk Try.prog (spec_l1Cur_next.S N) := sayOk_mk (N := N) (H := spec_l1Cur_next.H) (preps := [⟨[], [], []⟩]) (l := spec_l1Cur_next.says) (fn := Try.f69) (c := bodyOf Try.f69)
  (by kernel_rfl) (by kernel_rfl) (by kernel_rfl) (by kernel_rfl) (by kernel_rfl) (by kernel_rfl) (by kernel_rfl)
  (fun N => SayAll.nil) (fun a s => by kernel_rfl)

/-! ### (*loop.example/g00206/spec.l1Cur).pick: function 42 -/
noncomputable def spec_l1Cur_pick.H : Hints := hintsOf []
noncomputable def spec_l1Cur_pick.says (N : Nat) : List Say := [spec_l1Cur_next.S N]
noncomputable def spec_l1Cur_pick.call (N : Nat) : CallK := callBy (spec_l1Cur_pick.says N)
noncomputable def spec_l1Cur_pick.qt (N : Nat) : FuncId → List PV → Sig → Cl := qtBy (spec_l1Cur_pick.says N)
noncomputable def spec_l1Cur_pick (N : Nat) (n : Int) (p0_0 : (List Int)) (p0_1 : Int) (p0_2 : Int) : Option ((Int × Unit) × (((List Int) × (Int × (Int × Unit))) × Unit)) :=
  ofFn Try.prog spec_l1Cur_pick.call spec_l1Cur_pick.qt spec_l1Cur_pick.H N Try.f42 [.one (.ptr 0 0), ak_i] [.cells [.sh (.rows (.int .u8)), ck_i, .sh (.int .u64)]] [ak_i] [.cells [.sh (.rows (.int .u8)), ck_i, .sh (.int .u64)]] [⟨[], [], []⟩] ((), (n, ())) ((p0_0, (p0_1, (p0_2, ()))), ())
noncomputable def spec_l1Cur_pick.S (N : Nat) : Say := ⟨false, 42, [.one (.ptr 0 0), ak_i], [.cells [.sh (.rows (.int .u8)), ck_i, .sh (.int .u64)]], [ak_i], [.cells [.sh (.rows (.int .u8)), ck_i, .sh (.int .u64)]], fun a s => spec_l1Cur_pick N a.2.1 s.1.1 s.1.2.1 s.1.2.2.1⟩
set_option maxRecDepth 100000 in
theorem spec_l1Cur_pick.eq (N : Nat) (n : Int) (p0_0 : (List Int)) (p0_1 : Int) (p0_2 : Int) : spec_l1Cur_pick N n p0_0 p0_1 p0_2 =
 sel (decide (n ≤ 1))
  (
  some ((0, ()), ((p0_0, (p0_1, (p0_2, ()))), ())))
  (
  andK (spec_l1Cur_next N p0_0 p0_1 p0_2) fun u1 =>
  sel (decide (200 < n))
   (
   andK (spec_l1Cur_next N u1.2.1.1 u1.2.1.2.1 u1.2.1.2.2.1) fun u2 =>
   chk (n != 0) (
   some (((Int.tmod (IntKind.i64.wrap ((IntKind.i64.wrap (u1.1.1 * 256)) + u2.1.1)) n), ()), ((u2.2.1.1, (u2.2.1.2.1, (u2.2.1.2.2.1, ()))), ()))))
   (
   chk (n != 0) (
   some (((Int.tmod u1.1.1 n), ()), ((u1.2.1.1, (u1.2.1.2.1, (u1.2.1.2.2.1, ()))), ()))))) := by kernel_rfl
set_option maxRecDepth 100000 in
theorem spec_l1Cur_pick.say (N : Nat) : SayOk Try.prog (spec_l1Cur_pick.S N) := sayOk_mk (N := N) (H := spec_l1Cur_pick.H) (preps := [⟨[], [], []⟩]) (l := spec_l1Cur_pick.says) (fn := Try.f42) (c := bodyOf Try.f42)
  (by kernel_rfl) (by kernel_rfl) (by kernel_rfl) (by kernel_rfl) (by kernel_rfl) (by kernel_rfl) (by kernel_rfl)
  (fun N => SayAll.cons (spec_l1Cur_next.say N) (SayAll.nil)) (fun a s => by kernel_rfl)

/-! ### loop.example/g00206/spec.DrawInverseGf: function 47 -/
noncomputable def spec_DrawInverseGf.H : Hints := hintsOf []
noncomputable def spec_DrawInverseGf.says (N : Nat) : List Say := [spec_l1Cur_pick.S N]
noncomputable def spec_DrawInverseGf.call (N : Nat) : CallK := callBy (spec_DrawInverseGf.says N)
noncomputable def spec_DrawInverseGf.qt (N : Nat) : FuncId → List PV → Sig → Cl := qtBy (spec_DrawInverseGf.says N)
noncomputable def spec_DrawInverseGf (N : Nat) (code : (List Int)) : Option ((Int × Unit) × Unit) :=
  ofFn Try.prog spec_DrawInverseGf.call spec_DrawInverseGf.qt spec_DrawInverseGf.H N Try.f47 [.one (.sh (.rows (.int .u8)))] [] [ak_i] [] [⟨[], [], []⟩] (code, ()) ()
noncomputable def spec_DrawInverseGf.S (N : Nat) : Say := ⟨false, 47, [.one (.sh (.rows (.int .u8)))], [], [ak_i], [], fun a s => spec_DrawInverseGf N a.1⟩
set_option maxRecDepth 100000 in
theorem spec_DrawInverseGf.eq (N : Nat) (code : (List Int)) : spec_DrawInverseGf N code =
 andK (spec_l1Cur_pick N 300 code 0 0) fun u1 =>
 some (((IntKind.i64.wrap (u1.1.1 - 10)), ()), ()) := by kernel_rfl
set_option maxRecDepth 100000 in
theorem spec_DrawInverseGf.say (N : Nat) : SayOk Try.prog (spec_DrawInverseGf.S N) := sayOk_mk (N := N) (H := spec_DrawInverseGf.H) (preps := [⟨[], [], []⟩]) (l := spec_DrawInverseGf.says) (fn := Try.f47) (c := bodyOf Try.f47)
  (by kernel_rfl) (by kernel_rfl) (by kernel_rfl) (by kernel_rfl) (by kernel_rfl) (by kernel_rfl) (by kernel_rfl)
  (fun N => SayAll.cons (spec_l1Cur_pick.say N) (SayAll.nil)) (fun a s => by kernel_rfl)

/-! ### loop.example/g00206/spec.DrawSubByte: function 21 -/
noncomputable def spec_DrawSubByte.H : Hints := hintsOf []
noncomputable def spec_DrawSubByte.says (N : Nat) : List Say := [spec_DrawInverseGf.S N]
noncomputable def spec_DrawSubByte.call (N : Nat) : CallK := callBy (spec_DrawSubByte.says N)
noncomputable def spec_DrawSubByte.qt (N : Nat) : FuncId → List PV → Sig → Cl := qtBy (spec_DrawSubByte.says N)
noncomputable def spec_DrawSubByte (N : Nat) (code : (List Int)) : Option ((Int × Unit) × Unit) :=
  ofFn Try.prog spec_DrawSubByte.call spec_DrawSubByte.qt spec_DrawSubByte.H N Try.f21 [.one (.sh (.rows (.int .u8)))] [] [ak_i] [] [⟨[], [], []⟩] (code, ()) ()
noncomputable def spec_DrawSubByte.S (N : Nat) : Say := ⟨false, 21, [.one (.sh (.rows (.int .u8)))], [], [ak_i], [], fun a s => spec_DrawSubByte N a.1⟩
set_option maxRecDepth 100000 in
theorem spec_DrawSubByte.eq (N : Nat) (code : (List Int)) : spec_DrawSubByte N code =
 andK (spec_DrawInverseGf N code) fun u1 =>
 some ((u1.1.1, ()), ()) := by kernel_rfl
set_option maxRecDepth 100000 in
theorem spec_DrawSubByte.say (N : Nat) : SayOk Try.prog (spec_DrawSubByte.S N) := sayOk_mk (N := N) (H := spec_DrawSubByte.H) (preps := [⟨[], [], []⟩]) (l := spec_DrawSubByte.says) (fn := Try.f21) (c := bodyOf Try.f21)
  (by kernel_rfl) (by kernel_rfl) (by kernel_rfl) (by kernel_rfl) (by kernel_rfl) (by kernel_rfl) (by kernel_rfl)
  (fun N => SayAll.cons (spec_DrawInverseGf.say N) (SayAll.nil)) (fun a s => by kernel_rfl)

/-! ### loop.example/g00206/impl.mulGf: function 43 -/
noncomputable def impl_mulGf.H : Hints := hintsOf [(5, .join [⟨.normal, [0, 1], [5], [.one (.sh (.int .u8))], [], [⟨[], [], []⟩]⟩]),
  (9, .join [⟨.normal, [1, 5], [0], [.one (.sh (.int .u8))], [], [⟨[], [], []⟩]⟩]),
  (2000002, .loop ⟨.normal, [], [0, 1, 5], [.one (.sh (.int .u8)), .one (.sh (.int .u8)), .one (.sh (.int .u8))], [], [⟨[], [], []⟩]⟩ [⟨(.exit 0), [], [5], [.one (.sh (.int .u8))], [], [⟨[], [], []⟩]⟩])]
noncomputable def impl_mulGf.says (N : Nat) : List Say := []
noncomputable def impl_mulGf.call (N : Nat) : CallK := callBy (impl_mulGf.says N)
noncomputable def impl_mulGf.qt (N : Nat) : FuncId → List PV → Sig → Cl := qtBy (impl_mulGf.says N)
noncomputable def impl_mulGf.l0.hd : Alt := ⟨.normal, [], [0, 1, 5], [.one (.sh (.int .u8)), .one (.sh (.int .u8)), .one (.sh (.int .u8))], [], [⟨[], [], []⟩]⟩
noncomputable def impl_mulGf.l0.outs : List Alt := [⟨(.exit 0), [], [5], [.one (.sh (.int .u8))], [], [⟨[], [], []⟩]⟩]
noncomputable def impl_mulGf.l0 (N : Nat) (a1 : Int) (b1 : Int) (out : Int) : Option ((Int × Unit) × Unit) :=
  loopK Try.prog impl_mulGf.call impl_mulGf.qt impl_mulGf.H (codeAt (bodyOf Try.f43) [1, 1, 0, 0, 0]) 0 impl_mulGf.l0.hd impl_mulGf.l0.outs [] N ((a1, (b1, (out, ()))), ())
noncomputable def impl_mulGf (N : Nat) (a : Int) (b : Int) : Option ((Int × Unit) × Unit) :=
  ofFn Try.prog impl_mulGf.call impl_mulGf.qt impl_mulGf.H N Try.f43 [.one (.sh (.int .u8)), .one (.sh (.int .u8))] [] [.one (.sh (.int .u8))] [] [⟨[], [], []⟩] (a, (b, ())) ()
noncomputable def impl_mulGf.S (N : Nat) : Say := ⟨false, 43, [.one (.sh (.int .u8)), .one (.sh (.int .u8))], [], [.one (.sh (.int .u8))], [], fun a s => impl_mulGf N a.1 a.2.1⟩
set_option maxRecDepth 100000 in
theorem impl_mulGf.l0.eq (N : Nat) (a1 : Int) (b1 : Int) (out : Int) : impl_mulGf.l0 (N + 1) a1 b1 out =
 sel (!(decide (b1 = 0)))
  (
  andK (α := ((Int × Unit) × Unit)) (
   sel (decide ((Go.bits .and .u8 b1 1) = 1))
    (
    some ((((Go.bits .xor .u8 out a1), ()), ())))
    (
    some (((out, ()), ())))) fun j1 =>
  andK (α := ((Int × Unit) × Unit)) (
   sel (!(decide ((Go.bits .and .u8 a1 128) = 0)))
    (
    some ((((Go.bits .xor .u8 (shlI .u8 a1 1) 27), ()), ())))
    (
    some ((((shlI .u8 a1 1), ()), ())))) fun j2 =>
  impl_mulGf.l0 N j2.1.1 (shrI .u8 b1 1) j1.1.1)
  (
  some (((out, ()), ()))) := by kernel_rfl
set_option maxRecDepth 100000 in
theorem impl_mulGf.eq (N : Nat) (a : Int) (b : Int) : impl_mulGf N a b =
 andK (impl_mulGf.l0 N a b 0) fun l3 =>
 some ((l3.1.1, ()), ()) := by kernel_rfl
set_option maxRecDepth 100000 in
theorem impl_mulGf.say (N : Nat) : SayOk Try.prog (impl_mulGf.S N) := sayOk_mk (N := N) (H := impl_mulGf.H) (preps := [⟨[], [], []⟩]) (l := impl_mulGf.says) (fn := Try.f43) (c := bodyOf Try.f43)
  (by kernel_rfl) (by kernel_rfl) (by kernel_rfl) (by kernel_rfl) (by kernel_rfl) (by kernel_rfl) (by kernel_rfl)
  (fun N => SayAll.nil) (fun a s => by kernel_rfl)

/-! ### loop.example/g00206/impl.inverseGf: function 44 -/
noncomputable def impl_inverseGf.H : Hints := hintsOf [(2000003, .loop ⟨.normal, [0], [3, 4], [.one (.sh (.int .u8)), ak_i], [], [⟨[], [], []⟩]⟩ [⟨(.exit 0), [], [3], [.one (.sh (.int .u8))], [], [⟨[], [], []⟩]⟩])]
noncomputable def impl_inverseGf.says (N : Nat) : List Say := [impl_mulGf.S N]
noncomputable def impl_inverseGf.call (N : Nat) : CallK := callBy (impl_inverseGf.says N)
noncomputable def impl_inverseGf.qt (N : Nat) : FuncId → List PV → Sig → Cl := qtBy (impl_inverseGf.says N)
noncomputable def impl_inverseGf.l0.hd : Alt := ⟨.normal, [0], [3, 4], [.one (.sh (.int .u8)), ak_i], [], [⟨[], [], []⟩]⟩
noncomputable def impl_inverseGf.l0.outs : List Alt := [⟨(.exit 0), [], [3], [.one (.sh (.int .u8))], [], [⟨[], [], []⟩]⟩]
noncomputable def impl_inverseGf.l0 (N : Nat) (a1 : Int) (out : Int) (t4 : Int) : Option ((Int × Unit) × Unit) :=
  loopK Try.prog impl_inverseGf.call impl_inverseGf.qt impl_inverseGf.H (codeAt (bodyOf Try.f44) [1, 1, 0, 1, 0, 0]) 0 impl_inverseGf.l0.hd impl_inverseGf.l0.outs [(0, .v (.int .u8 a1))] N ((out, (t4, ())), ())
noncomputable def impl_inverseGf (N : Nat) (a : Int) : Option ((Int × Unit) × Unit) :=
  ofFn Try.prog impl_inverseGf.call impl_inverseGf.qt impl_inverseGf.H N Try.f44 [.one (.sh (.int .u8))] [] [.one (.sh (.int .u8))] [] [⟨[], [], []⟩] (a, ()) ()
noncomputable def impl_inverseGf.S (N : Nat) : Say := ⟨false, 44, [.one (.sh (.int .u8))], [], [.one (.sh (.int .u8))], [], fun a s => impl_inverseGf N a.1⟩
set_option maxRecDepth 100000 in
theorem impl_inverseGf.l0.eq (N : Nat) (a1 : Int) (out : Int) (t4 : Int) : impl_inverseGf.l0 (N + 1) a1 out t4 =
 sel (decide (t4 < 254))
  (
  andK (impl_mulGf N out a1) fun u1 =>
  impl_inverseGf.l0 N a1 u1.1.1 (IntKind.i64.wrap (t4 + 1)))
  (
  some (((out, ()), ()))) := by kernel_rfl
set_option maxRecDepth 100000 in
theorem impl_inverseGf.eq (N : Nat) (a : Int) : impl_inverseGf N a =
 andK (impl_inverseGf.l0 N a 1 0) fun l2 =>
 some ((l2.1.1, ()), ()) := by kernel_rfl
set_option maxRecDepth 100000 in
theorem impl_inverseGf.say (N : Nat) : SayOk Try.prog (impl_inverseGf.S N) := sayOk_mk (N := N) (H := impl_inverseGf.H) (preps := [⟨[], [], []⟩]) (l := impl_inverseGf.says) (fn := Try.f44) (c := bodyOf Try.f44)
  (by kernel_rfl) (by kernel_rfl) (by kernel_rfl) (by kernel_rfl) (by kernel_rfl) (by kernel_rfl) (by kernel_rfl)
  (fun N => SayAll.cons (impl_mulGf.say N) (SayAll.nil)) (fun a s => by kernel_rfl)

/-! ### math/bits.RotateLeft8: function 70 -/
noncomputable def math_bits_RotateLeft8.H : Hints := hintsOf []
noncomputable def math_bits_RotateLeft8.says (N : Nat) : List Say := []
noncomputable def math_bits_RotateLeft8.call (N : Nat) : CallK := callBy (math_bits_RotateLeft8.says N)
noncomputable def math_bits_RotateLeft8.qt (N : Nat) : FuncId → List PV → Sig → Cl := qtBy (math_bits_RotateLeft8.says N)
noncomputable def math_bits_RotateLeft8 (N : Nat) (x : Int) (k : Int) : Option ((Int × Unit) × Unit) :=
  ofFn Try.prog math_bits_RotateLeft8.call math_bits_RotateLeft8.qt math_bits_RotateLeft8.H N Try.f70 [.one (.sh (.int .u8)), ak_i] [] [.one (.sh (.int .u8))] [] [⟨[], [], []⟩] (x, (k, ())) ()
noncomputable def math_bits_RotateLeft8.S (N : Nat) : Say := ⟨false, 70, [.one (.sh (.int .u8)), ak_i], [], [.one (.sh (.int .u8))], [], fun a s => math_bits_RotateLeft8 N a.1 a.2.1⟩
set_option maxRecDepth 100000 in
theorem math_bits_RotateLeft8.eq (N : Nat) (x : Int) (k : Int) : math_bits_RotateLeft8 N x k =
 chk (decide (0 ≤ (Go.bits .and .u64 (IntKind.u64.wrap k) 7))) (
 chk (decide (0 ≤ (IntKind.u64.wrap (8 - (Go.bits .and .u64 (IntKind.u64.wrap k) 7))))) (
 some (((Go.bits .or .u8 (shlI .u8 x (Go.bits .and .u64 (IntKind.u64.wrap k) 7)) (shrI .u8 x (IntKind.u64.wrap (8 - (Go.bits .and .u64 (IntKind.u64.wrap k) 7))))), ()), ()))) := by kernel_rfl
set_option maxRecDepth 100000 in
theorem math_bits_RotateLeft8.say (N : Nat) : SayOk Try.prog (math_bits_RotateLeft8.S N) := sayOk_mk (N := N) (H := math_bits_RotateLeft8.H) (preps := [⟨[], [], []⟩]) (l := math_bits_RotateLeft8.says) (fn := Try.f70) (c := bodyOf Try.f70)
  (by kernel_rfl) (by kernel_rfl) (by kernel_rfl) (by kernel_rfl) (by kernel_rfl) (by kernel_rfl) (by kernel_rfl)
  (fun N => SayAll.nil) (fun a s => by kernel_rfl)

/-! ### loop.example/g00206/impl.subByte: function 48 -/
noncomputable def impl_subByte.H : Hints := hintsOf [(2000004, .loop ⟨.normal, [3], [4, 5], [.one (.sh (.int .u8)), ak_i], [], [⟨[], [], []⟩]⟩ [⟨(.exit 0), [], [4], [.one (.sh (.int .u8))], [], [⟨[], [], []⟩]⟩])]
noncomputable def impl_subByte.says (N : Nat) : List Say := [impl_inverseGf.S N, math_bits_RotateLeft8.S N]
noncomputable def impl_subByte.call (N : Nat) : CallK := callBy (impl_subByte.says N)
noncomputable def impl_subByte.qt (N : Nat) : FuncId → List PV → Sig → Cl := qtBy (impl_subByte.says N)
noncomputable def impl_subByte.l0.hd : Alt := ⟨.normal, [3], [4, 5], [.one (.sh (.int .u8)), ak_i], [], [⟨[], [], []⟩]⟩
noncomputable def impl_subByte.l0.outs : List Alt := [⟨(.exit 0), [], [4], [.one (.sh (.int .u8))], [], [⟨[], [], []⟩]⟩]
noncomputable def impl_subByte.l0 (N : Nat) (c : Int) (out : Int) (i : Int) : Option ((Int × Unit) × Unit) :=
  loopK Try.prog impl_subByte.call impl_subByte.qt impl_subByte.H (codeAt (bodyOf Try.f48) [1, 1, 1, 0, 1, 0, 0]) 0 impl_subByte.l0.hd impl_subByte.l0.outs [(3, .v (.int .u8 c))] N ((out, (i, ())), ())
noncomputable def impl_subByte (N : Nat) (b : Int) : Option ((Int × Unit) × Unit) :=
  ofFn Try.prog impl_subByte.call impl_subByte.qt impl_subByte.H N Try.f48 [.one (.sh (.int .u8))] [] [.one (.sh (.int .u8))] [] [⟨[], [], []⟩] (b, ()) ()
noncomputable def impl_subByte.S (N : Nat) : Say := ⟨false, 48, [.one (.sh (.int .u8))], [], [.one (.sh (.int .u8))], [], fun a s => impl_subByte N a.1⟩
set_option maxRecDepth 100000 in
theorem impl_subByte.l0.eq (N : Nat) (c : Int) (out : Int) (i : Int) : impl_subByte.l0 (N + 1) c out i =
 sel (decide (i < 5))
  (
  andK (math_bits_RotateLeft8 N c i) fun u2 =>
  impl_subByte.l0 N c (Go.bits .xor .u8 out u2.1.1) (IntKind.i64.wrap (i + 1)))
  (
  some (((out, ()), ()))) := by kernel_rfl
set_option maxRecDepth 100000 in
theorem impl_subByte.eq (N : Nat) (b : Int) : impl_subByte N b =
 andK (impl_inverseGf N b) fun u1 =>
 andK (impl_subByte.l0 N u1.1.1 (Go.bits .xor .u8 u1.1.1 99) 1) fun l3 =>
 some ((l3.1.1, ()), ()) := by kernel_rfl
set_option maxRecDepth 100000 in
theorem impl_subByte.say (N : Nat) : SayOk Try.prog (impl_subByte.S N) := sayOk_mk (N := N) (H := impl_subByte.H) (preps := [⟨[], [], []⟩]) (l := impl_subByte.says) (fn := Try.f48) (c := bodyOf Try.f48)
  (by kernel_rfl) (by kernel_rfl) (by kernel_rfl) (by kernel_rfl) (by kernel_rfl) (by kernel_rfl) (by kernel_rfl)
  (fun N => SayAll.cons (impl_inverseGf.say N) (SayAll.cons (math_bits_RotateLeft8.say N) (SayAll.nil))) (fun a s => by kernel_rfl)

/-! ### loop.example/g00206/impl.SubByte: function 22 -/
noncomputable def impl_SubByte.H : Hints := hintsOf []
noncomputable def impl_SubByte.says (N : Nat) : List Say := [impl_subByte.S N]
noncomputable def impl_SubByte.call (N : Nat) : CallK := callBy (impl_SubByte.says N)
noncomputable def impl_SubByte.qt (N : Nat) : FuncId → List PV → Sig → Cl := qtBy (impl_SubByte.says N)
noncomputable def impl_SubByte (N : Nat) (b : Int) : Option ((Int × Unit) × Unit) :=
  ofFn Try.prog impl_SubByte.call impl_SubByte.qt impl_SubByte.H N Try.f22 [ak_i] [] [ak_i] [] [⟨[], [], []⟩] (b, ()) ()
noncomputable def impl_SubByte.S (N : Nat) : Say := ⟨false, 22, [ak_i], [], [ak_i], [], fun a s => impl_SubByte N a.1⟩
set_option maxRecDepth 100000 in
theorem impl_SubByte.eq (N : Nat) (b : Int) : impl_SubByte N b =
 andK (impl_subByte N (IntKind.u8.wrap b)) fun u1 =>
 some (((IntKind.i64.wrap u1.1.1), ()), ()) := by kernel_rfl
set_option maxRecDepth 100000 in
theorem impl_SubByte.say (N : Nat) : SayOk Try.prog (impl_SubByte.S N) := sayOk_mk (N := N) (H := impl_SubByte.H) (preps := [⟨[], [], []⟩]) (l := impl_SubByte.says) (fn := Try.f22) (c := bodyOf Try.f22)
  (by kernel_rfl) (by kernel_rfl) (by kernel_rfl) (by kernel_rfl) (by kernel_rfl) (by kernel_rfl) (by kernel_rfl)
  (fun N => SayAll.cons (impl_subByte.say N) (SayAll.nil)) (fun a s => by kernel_rfl)

/-! ### loop.example/g00206/spec.l3Mul: function 45 -/
noncomputable def spec_l3Mul.H : Hints := hintsOf [(5, .join [⟨.normal, [0, 1], [5], [.one (.sh (.int .u8))], [], [⟨[], [], []⟩]⟩]),
  (9, .join [⟨.normal, [1, 5], [0], [.one (.sh (.int .u8))], [], [⟨[], [], []⟩]⟩]),
  (2000002, .loop ⟨.normal, [], [0, 1, 5], [.one (.sh (.int .u8)), .one (.sh (.int .u8)), .one (.sh (.int .u8))], [], [⟨[], [], []⟩]⟩ [⟨(.exit 0), [], [5], [.one (.sh (.int .u8))], [], [⟨[], [], []⟩]⟩])]
noncomputable def spec_l3Mul.says (N : Nat) : List Say := []
noncomputable def spec_l3Mul.call (N : Nat) : CallK := callBy (spec_l3Mul.says N)
noncomputable def spec_l3Mul.qt (N : Nat) : FuncId → List PV → Sig → Cl := qtBy (spec_l3Mul.says N)
noncomputable def spec_l3Mul.l0.hd : Alt := ⟨.normal, [], [0, 1, 5], [.one (.sh (.int .u8)), .one (.sh (.int .u8)), .one (.sh (.int .u8))], [], [⟨[], [], []⟩]⟩
noncomputable def spec_l3Mul.l0.outs : List Alt := [⟨(.exit 0), [], [5], [.one (.sh (.int .u8))], [], [⟨[], [], []⟩]⟩]
noncomputable def spec_l3Mul.l0 (N : Nat) (a1 : Int) (b1 : Int) (out : Int) : Option ((Int × Unit) × Unit) :=
  loopK Try.prog spec_l3Mul.call spec_l3Mul.qt spec_l3Mul.H (codeAt (bodyOf Try.f45) [1, 1, 0, 0, 0]) 0 spec_l3Mul.l0.hd spec_l3Mul.l0.outs [] N ((a1, (b1, (out, ()))), ())
noncomputable def spec_l3Mul (N : Nat) (a : Int) (b : Int) : Option ((Int × Unit) × Unit) :=
  ofFn Try.prog spec_l3Mul.call spec_l3Mul.qt spec_l3Mul.H N Try.f45 [.one (.sh (.int .u8)), .one (.sh (.int .u8))] [] [.one (.sh (.int .u8))] [] [⟨[], [], []⟩] (a, (b, ())) ()
noncomputable def spec_l3Mul.S (N : Nat) : Say := ⟨false, 45, [.one (.sh (.int .u8)), .one (.sh (.int .u8))], [], [.one (.sh (.int .u8))], [], fun a s => spec_l3Mul N a.1 a.2.1⟩
set_option maxRecDepth 100000 in
theorem spec_l3Mul.l0.eq (N : Nat) (a1 : Int) (b1 : Int) (out : Int) : spec_l3Mul.l0 (N + 1) a1 b1 out =
 sel (decide (0 < b1))
  (
  andK (α := ((Int × Unit) × Unit)) (
   sel (decide ((Go.bits .and .u8 b1 1) = 1))
    (
    some ((((Go.bits .xor .u8 out a1), ()), ())))
    (
    some (((out, ()), ())))) fun j1 =>
  andK (α := ((Int × Unit) × Unit)) (
   sel (!(decide ((Go.bits .and .u8 a1 128) = 0)))
    (
    some ((((Go.bits .xor .u8 (shlI .u8 a1 1) 27), ()), ())))
    (
    some ((((shlI .u8 a1 1), ()), ())))) fun j2 =>
  spec_l3Mul.l0 N j2.1.1 (shrI .u8 b1 1) j1.1.1)
  (
  some (((out, ()), ()))) := by kernel_rfl
set_option maxRecDepth 100000 in
theorem spec_l3Mul.eq (N : Nat) (a : Int) (b : Int) : spec_l3Mul N a b =
 andK (spec_l3Mul.l0 N a b 0) fun l3 =>
 some ((l3.1.1, ()), ()) := by kernel_rfl
set_option maxRecDepth 100000 in
theorem spec_l3Mul.say (N : Nat) : SayOk Try.prog (spec_l3Mul.S N) := sayOk_mk (N := N) (H := spec_l3Mul.H) (preps := [⟨[], [], []⟩]) (l := spec_l3Mul.says) (fn := Try.f45) (c := bodyOf Try.f45)
  (by kernel_rfl) (by kernel_rfl) (by kernel_rfl) (by kernel_rfl) (by kernel_rfl) (by kernel_rfl) (by kernel_rfl)
  (fun N => SayAll.nil) (fun a s => by kernel_rfl)

/-! ### loop.example/g00206/spec.l3Inverse: function 46 -/
noncomputable def spec_l3Inverse.H : Hints := hintsOf [(7, .join [⟨.normal, [0, 4], [3], [.one (.sh (.int .u8))], [], [⟨[], [], []⟩]⟩]),
  (2000003, .loop ⟨.normal, [], [0, 3, 4], [.one (.sh (.int .u8)), .one (.sh (.int .u8)), ak_i], [], [⟨[], [], []⟩]⟩ [⟨(.exit 0), [], [3], [.one (.sh (.int .u8))], [], [⟨[], [], []⟩]⟩])]
noncomputable def spec_l3Inverse.says (N : Nat) : List Say := [spec_l3Mul.S N]
noncomputable def spec_l3Inverse.call (N : Nat) : CallK := callBy (spec_l3Inverse.says N)
noncomputable def spec_l3Inverse.qt (N : Nat) : FuncId → List PV → Sig → Cl := qtBy (spec_l3Inverse.says N)
noncomputable def spec_l3Inverse.l0.hd : Alt := ⟨.normal, [], [0, 3, 4], [.one (.sh (.int .u8)), .one (.sh (.int .u8)), ak_i], [], [⟨[], [], []⟩]⟩
noncomputable def spec_l3Inverse.l0.outs : List Alt := [⟨(.exit 0), [], [3], [.one (.sh (.int .u8))], [], [⟨[], [], []⟩]⟩]
noncomputable def spec_l3Inverse.l0 (N : Nat) (a1 : Int) (out : Int) (n : Int) : Option ((Int × Unit) × Unit) :=
  loopK Try.prog spec_l3Inverse.call spec_l3Inverse.qt spec_l3Inverse.H (codeAt (bodyOf Try.f46) [1, 1, 0, 1, 0, 0]) 0 spec_l3Inverse.l0.hd spec_l3Inverse.l0.outs [] N ((a1, (out, (n, ()))), ())
noncomputable def spec_l3Inverse (N : Nat) (a : Int) : Option ((Int × Unit) × Unit) :=
  ofFn Try.prog spec_l3Inverse.call spec_l3Inverse.qt spec_l3Inverse.H N Try.f46 [.one (.sh (.int .u8))] [] [.one (.sh (.int .u8))] [] [⟨[], [], []⟩] (a, ()) ()
noncomputable def spec_l3Inverse.S (N : Nat) : Say := ⟨false, 46, [.one (.sh (.int .u8))], [], [.one (.sh (.int .u8))], [], fun a s => spec_l3Inverse N a.1⟩
set_option maxRecDepth 100000 in
theorem spec_l3Inverse.l0.eq (N : Nat) (a1 : Int) (out : Int) (n : Int) : spec_l3Inverse.l0 (N + 1) a1 out n =
 sel (decide (0 < n))
  (
  andK (α := ((Int × Unit) × Unit)) (
   sel (decide ((Go.bits .and .i64 n 1) = 1))
    (
    andK (spec_l3Mul N out a1) fun u1 =>
    some (((u1.1.1, ()), ())))
    (
    some (((out, ()), ())))) fun j2 =>
  andK (spec_l3Mul N a1 a1) fun u3 =>
  spec_l3Inverse.l0 N u3.1.1 j2.1.1 (shrI .i64 n 1))
  (
  some (((out, ()), ()))) := by kernel_rfl
set_option maxRecDepth 100000 in
theorem spec_l3Inverse.eq (N : Nat) (a : Int) : spec_l3Inverse N a =
 andK (spec_l3Inverse.l0 N a 1 254) fun l4 =>
 some ((l4.1.1, ()), ()) := by kernel_rfl
set_option maxRecDepth 100000 in
theorem spec_l3Inverse.say (N : Nat) : SayOk Try.prog (spec_l3Inverse.S N) := sayOk_mk (N := N) (H := spec_l3Inverse.H) (preps := [⟨[], [], []⟩]) (l := spec_l3Inverse.says) (fn := Try.f46) (c := bodyOf Try.f46)
  (by kernel_rfl) (by kernel_rfl) (by kernel_rfl) (by kernel_rfl) (by kernel_rfl) (by kernel_rfl) (by kernel_rfl)
  (fun N => SayAll.cons (spec_l3Mul.say N) (SayAll.nil)) (fun a s => by kernel_rfl)

/-! ### loop.example/g00206/spec.l3Turn: function 71 -/
noncomputable def spec_l3Turn.H : Hints := hintsOf []
noncomputable def spec_l3Turn.says (N : Nat) : List Say := []
noncomputable def spec_l3Turn.call (N : Nat) : CallK := callBy (spec_l3Turn.says N)
noncomputable def spec_l3Turn.qt (N : Nat) : FuncId → List PV → Sig → Cl := qtBy (spec_l3Turn.says N)
noncomputable def spec_l3Turn (N : Nat) (b : Int) (n : Int) : Option ((Int × Unit) × Unit) :=
  ofFn Try.prog spec_l3Turn.call spec_l3Turn.qt spec_l3Turn.H N Try.f71 [.one (.sh (.int .u8)), .one (.sh (.int .u64))] [] [.one (.sh (.int .u8))] [] [⟨[], [], []⟩] (b, (n, ())) ()
noncomputable def spec_l3Turn.S (N : Nat) : Say := ⟨false, 71, [.one (.sh (.int .u8)), .one (.sh (.int .u64))], [], [.one (.sh (.int .u8))], [], fun a s => spec_l3Turn N a.1 a.2.1⟩
set_option maxRecDepth 100000 in
theorem spec_l3Turn.eq (N : Nat) (b : Int) (n : Int) : spec_l3Turn N b n =
 chk (decide (0 ≤ n)) (
 chk (decide (0 ≤ (IntKind.u64.wrap (8 - n)))) (
 some (((Go.bits .or .u8 (shlI .u8 b n) (shrI .u8 b (IntKind.u64.wrap (8 - n)))), ()), ()))) := by kernel_rfl
set_option maxRecDepth 100000 in
theorem spec_l3Turn.say (N : Nat) : SayOk Try.prog (spec_l3Turn.S N) := sayOk_mk (N := N) (H := spec_l3Turn.H) (preps := [⟨[], [], []⟩]) (l := spec_l3Turn.says) (fn := Try.f71) (c := bodyOf Try.f71)
  (by kernel_rfl) (by kernel_rfl) (by kernel_rfl) (by kernel_rfl) (by kernel_rfl) (by kernel_rfl) (by kernel_rfl)
  (fun N => SayAll.nil) (fun a s => by kernel_rfl)

/-! ### loop.example/g00206/spec.l3Sub: function 49 -/
noncomputable def spec_l3Sub.H : Hints := hintsOf []
noncomputable def spec_l3Sub.says (N : Nat) : List Say := [spec_l3Inverse.S N, spec_l3Turn.S N]
noncomputable def spec_l3Sub.call (N : Nat) : CallK := callBy (spec_l3Sub.says N)
noncomputable def spec_l3Sub.qt (N : Nat) : FuncId → List PV → Sig → Cl := qtBy (spec_l3Sub.says N)
noncomputable def spec_l3Sub (N : Nat) (b : Int) : Option ((Int × Unit) × Unit) :=
  ofFn Try.prog spec_l3Sub.call spec_l3Sub.qt spec_l3Sub.H N Try.f49 [.one (.sh (.int .u8))] [] [.one (.sh (.int .u8))] [] [⟨[], [], []⟩] (b, ()) ()
noncomputable def spec_l3Sub.S (N : Nat) : Say := ⟨false, 49, [.one (.sh (.int .u8))], [], [.one (.sh (.int .u8))], [], fun a s => spec_l3Sub N a.1⟩
set_option maxRecDepth 100000 in
theorem spec_l3Sub.eq (N : Nat) (b : Int) : spec_l3Sub N b =
 andK (spec_l3Inverse N b) fun u1 =>
 andK (spec_l3Turn N u1.1.1 1) fun u2 =>
 andK (spec_l3Turn N u1.1.1 2) fun u3 =>
 andK (spec_l3Turn N u1.1.1 3) fun u4 =>
 andK (spec_l3Turn N u1.1.1 4) fun u5 =>
 some (((Go.bits .xor .u8 (Go.bits .xor .u8 (Go.bits .xor .u8 (Go.bits .xor .u8 (Go.bits .xor .u8 u1.1.1 u2.1.1) u3.1.1) u4.1.1) u5.1.1) 99), ()), ()) := by kernel_rfl
set_option maxRecDepth 100000 in
theorem spec_l3Sub.say (N : Nat) : SayOk Try.prog (spec_l3Sub.S N) := sayOk_mk (N := N) (H := spec_l3Sub.H) (preps := [⟨[], [], []⟩]) (l := spec_l3Sub.says) (fn := Try.f49) (c := bodyOf Try.f49)
  (by kernel_rfl) (by kernel_rfl) (by kernel_rfl) (by kernel_rfl) (by kernel_rfl) (by kernel_rfl) (by kernel_rfl)
  (fun N => SayAll.cons (spec_l3Inverse.say N) (SayAll.cons (spec_l3Turn.say N) (SayAll.nil))) (fun a s => by kernel_rfl)

/-! ### loop.example/g00206/spec.SubByte: function 23 -/
noncomputable def spec_SubByte.H : Hints := hintsOf []
noncomputable def spec_SubByte.says (N : Nat) : List Say := [spec_l3Sub.S N]
noncomputable def spec_SubByte.call (N : Nat) : CallK := callBy (spec_SubByte.says N)
noncomputable def spec_SubByte.qt (N : Nat) : FuncId → List PV → Sig → Cl := qtBy (spec_SubByte.says N)
noncomputable def spec_SubByte (N : Nat) (b : Int) : Option ((Int × Unit) × Unit) :=
  ofFn Try.prog spec_SubByte.call spec_SubByte.qt spec_SubByte.H N Try.f23 [ak_i] [] [ak_i] [] [⟨[], [], []⟩] (b, ()) ()
noncomputable def spec_SubByte.S (N : Nat) : Say := ⟨false, 23, [ak_i], [], [ak_i], [], fun a s => spec_SubByte N a.1⟩
set_option maxRecDepth 100000 in
theorem spec_SubByte.eq (N : Nat) (b : Int) : spec_SubByte N b =
 andK (spec_l3Sub N (IntKind.u8.wrap b)) fun u1 =>
 some (((IntKind.i64.wrap u1.1.1), ()), ()) := by kernel_rfl
set_option maxRecDepth 100000 in
theorem spec_SubByte.say (N : Nat) : SayOk Try.prog (spec_SubByte.S N) := sayOk_mk (N := N) (H := spec_SubByte.H) (preps := [⟨[], [], []⟩]) (l := spec_SubByte.says) (fn := Try.f23) (c := bodyOf Try.f23)
  (by kernel_rfl) (by kernel_rfl) (by kernel_rfl) (by kernel_rfl) (by kernel_rfl) (by kernel_rfl) (by kernel_rfl)
  (fun N => SayAll.cons (spec_l3Sub.say N) (SayAll.nil)) (fun a s => by kernel_rfl)

/-! ### loop.example/g00206/impl.newBox: function 50 -/
noncomputable def impl_newBox.H : Hints := hintsOf [(2000003, .loop ⟨.normal, [], [1, 6], [.one (.apl 0 0 512), ak_i], [.rows (.int .u8)], [⟨[], [], []⟩]⟩ [⟨(.exit 0), [], [1], [.one (.apl 0 0 512)], [.rows (.int .u8)], [⟨[], [], []⟩]⟩])]
noncomputable def impl_newBox.says (N : Nat) : List Say := [impl_subByte.S N]
noncomputable def impl_newBox.call (N : Nat) : CallK := callBy (impl_newBox.says N)
noncomputable def impl_newBox.qt (N : Nat) : FuncId → List PV → Sig → Cl := qtBy (impl_newBox.says N)
noncomputable def impl_newBox.l0.hd : Alt := ⟨.normal, [], [1, 6], [.one (.apl 0 0 512), ak_i], [.rows (.int .u8)], [⟨[], [], []⟩]⟩
noncomputable def impl_newBox.l0.outs : List Alt := [⟨(.exit 0), [], [1], [.one (.apl 0 0 512)], [.rows (.int .u8)], [⟨[], [], []⟩]⟩]
noncomputable def impl_newBox.l0 (N : Nat) (t6 : Int) (p0 : (List Int)) : Option ((Unit × Unit) × ((List Int) × Unit)) :=
  loopK Try.prog impl_newBox.call impl_newBox.qt impl_newBox.H (codeAt (bodyOf Try.f50) [1, 1, 0, 1, 0, 0]) 1 impl_newBox.l0.hd impl_newBox.l0.outs [] N (((), (t6, ())), (p0, ()))
noncomputable def impl_newBox (N : Nat) : Option ((Unit × Unit) × ((List Int) × Unit)) :=
  ofFn Try.prog impl_newBox.call impl_newBox.qt impl_newBox.H N Try.f50 [] [] [.one (.apl 0 0 512)] [.rows (.int .u8)] [⟨[], [], [0]⟩] () ()
noncomputable def impl_newBox.S (N : Nat) : Say := ⟨false, 50, [], [], [.one (.apl 0 0 512)], [.rows (.int .u8)], fun a s => impl_newBox N⟩
set_option maxRecDepth 100000 in
theorem impl_newBox.l0.eq (N : Nat) (t6 : Int) (p0 : (List Int)) : impl_newBox.l0 (N + 1) t6 p0 =
 sel (decide (t6 < 256))
  (
  andK (impl_subByte N (IntKind.u8.wrap t6)) fun u1 =>
  chk ((decide (0 ≤ t6)) && (decide (t6 < 256))) (
  chk ((decide (0 ≤ u1.1.1)) && (decide (u1.1.1 < 256))) (
  impl_newBox.l0 N (IntKind.i64.wrap (t6 + 1)) ((p0.set (0 + (Int.toNat t6)) u1.1.1).set (256 + (Int.toNat u1.1.1)) (IntKind.u8.wrap t6)))))
  (
  some ((((), ()), (p0, ())))) := by kernel_rfl
set_option maxRecDepth 100000 in
theorem impl_newBox.eq (N : Nat) : impl_newBox N =
 andK (impl_newBox.l0 N 0 (List.replicate 512 (0 : Int))) fun l2 =>
 some (((), ()), (l2.2.1, ())) := by kernel_rfl
set_option maxRecDepth 100000 in
theorem impl_newBox.say (N : Nat) : SayOk Try.prog (impl_newBox.S N) := sayOk_mk (N := N) (H := impl_newBox.H) (preps := [⟨[], [], [0]⟩]) (l := impl_newBox.says) (fn := Try.f50) (c := bodyOf Try.f50)
  (by kernel_rfl) (by kernel_rfl) (by kernel_rfl) (by kernel_rfl) (by kernel_rfl) (by kernel_rfl) (by kernel_rfl)
  (fun N => SayAll.cons (impl_subByte.say N) (SayAll.nil)) (fun a s => by kernel_rfl)

/-! ### loop.example/g00206/impl.UnsubByte: function 24 -/
noncomputable def impl_UnsubByte.H : Hints := hintsOf []
noncomputable def impl_UnsubByte.says (N : Nat) : List Say := [impl_newBox.S N]
noncomputable def impl_UnsubByte.call (N : Nat) : CallK := callBy (impl_UnsubByte.says N)
noncomputable def impl_UnsubByte.qt (N : Nat) : FuncId → List PV → Sig → Cl := qtBy (impl_UnsubByte.says N)
noncomputable def impl_UnsubByte (N : Nat) (b : Int) : Option ((Int × Unit) × Unit) :=
  ofFn Try.prog impl_UnsubByte.call impl_UnsubByte.qt impl_UnsubByte.H N Try.f24 [ak_i] [] [ak_i] [] [⟨[], [], []⟩] (b, ()) ()
noncomputable def impl_UnsubByte.S (N : Nat) : Say := ⟨false, 24, [ak_i], [], [ak_i], [], fun a s => impl_UnsubByte N a.1⟩
set_option maxRecDepth 100000 in
theorem impl_UnsubByte.eq (N : Nat) (b : Int) : impl_UnsubByte N b =
 andK (impl_newBox N) fun u1 =>
 chk ((decide (0 ≤ (IntKind.u8.wrap b))) && (decide ((IntKind.u8.wrap b) < 256))) (
 some (((IntKind.i64.wrap (u1.2.1.getD (256 + (Int.toNat (IntKind.u8.wrap b))) 0)), ()), ())) := by kernel_rfl
set_option maxRecDepth 100000 in
theorem impl_UnsubByte.say (N : Nat) : SayOk Try.prog (impl_UnsubByte.S N) := sayOk_mk (N := N) (H := impl_UnsubByte.H) (preps := [⟨[], [], []⟩]) (l := impl_UnsubByte.says) (fn := Try.f24) (c := bodyOf Try.f24)
  (by kernel_rfl) (by kernel_rfl) (by kernel_rfl) (by kernel_rfl) (by kernel_rfl) (by kernel_rfl) (by kernel_rfl)
  (fun N => SayAll.cons (impl_newBox.say N) (SayAll.nil)) (fun a s => by kernel_rfl)

/-! ### loop.example/g00206/impl.MulGf: function 17 -/
noncomputable def impl_MulGf.H : Hints := hintsOf []
noncomputable def impl_MulGf.says (N : Nat) : List Say := [impl_mulGf.S N]
noncomputable def impl_MulGf.call (N : Nat) : CallK := callBy (impl_MulGf.says N)
noncomputable def impl_MulGf.qt (N : Nat) : FuncId → List PV → Sig → Cl := qtBy (impl_MulGf.says N)
noncomputable def impl_MulGf (N : Nat) (a : Int) (b : Int) : Option ((Int × Unit) × Unit) :=
  ofFn Try.prog impl_MulGf.call impl_MulGf.qt impl_MulGf.H N Try.f17 [ak_i, ak_i] [] [ak_i] [] [⟨[], [], []⟩] (a, (b, ())) ()
noncomputable def impl_MulGf.S (N : Nat) : Say := ⟨false, 17, [ak_i, ak_i], [], [ak_i], [], fun a s => impl_MulGf N a.1 a.2.1⟩
set_option maxRecDepth 100000 in
theorem impl_MulGf.eq (N : Nat) (a : Int) (b : Int) : impl_MulGf N a b =
 andK (impl_mulGf N (IntKind.u8.wrap a) (IntKind.u8.wrap b)) fun u1 =>
 some (((IntKind.i64.wrap u1.1.1), ()), ()) := by kernel_rfl
set_option maxRecDepth 100000 in
theorem impl_MulGf.say (N : Nat) : SayOk Try.prog (impl_MulGf.S N) := sayOk_mk (N := N) (H := impl_MulGf.H) (preps := [⟨[], [], []⟩]) (l := impl_MulGf.says) (fn := Try.f17) (c := bodyOf Try.f17)
  (by kernel_rfl) (by kernel_rfl) (by kernel_rfl) (by kernel_rfl) (by kernel_rfl) (by kernel_rfl) (by kernel_rfl)
  (fun N => SayAll.cons (impl_mulGf.say N) (SayAll.nil)) (fun a s => by kernel_rfl)

/-! ### loop.example/g00206/laws.FnSubstituted: function 7 -/
noncomputable def laws_FnSubstituted.H : Hints := hintsOf []
noncomputable def laws_FnSubstituted.says (N : Nat) : List Say := [spec_DrawSubByte.S N, impl_SubByte.S N, spec_SubByte.S N, impl_UnsubByte.S N, impl_MulGf.S N]
noncomputable def laws_FnSubstituted.call (N : Nat) : CallK := callBy (laws_FnSubstituted.says N)
noncomputable def laws_FnSubstituted.qt (N : Nat) : FuncId → List PV → Sig → Cl := qtBy (laws_FnSubstituted.says N)
noncomputable def laws_FnSubstituted (N : Nat) (code : (List Int)) : Option ((Bool × Unit) × Unit) :=
  ofFn Try.prog laws_FnSubstituted.call laws_FnSubstituted.qt laws_FnSubstituted.H N Try.f7 [.one (.sh (.rows (.int .u8)))] [] [ak_b] [] [⟨[], [], []⟩] (code, ()) ()
noncomputable def laws_FnSubstituted.S (N : Nat) : Say := ⟨false, 7, [.one (.sh (.rows (.int .u8)))], [], [ak_b], [], fun a s => laws_FnSubstituted N a.1⟩
set_option maxRecDepth 100000 in
theorem laws_FnSubstituted.eq (N : Nat) (code : (List Int)) : laws_FnSubstituted N code =
 sel (decide (1048576 < (code.length : Int)))
  (
  some ((true, ()), ()))
  (
  andK (spec_DrawSubByte N code) fun u1 =>
  andK (impl_SubByte N u1.1.1) fun u2 =>
  andK (spec_SubByte N u1.1.1) fun u3 =>
  sel (decide (u2.1.1 = u3.1.1))
   (
   andK (impl_UnsubByte N u2.1.1) fun u4 =>
   andK (impl_MulGf N u1.1.1 1) fun u5 =>
   sel (decide (u4.1.1 = u5.1.1))
    (
    andK (impl_UnsubByte N u1.1.1) fun u6 =>
    andK (impl_SubByte N u6.1.1) fun u7 =>
    andK (impl_MulGf N u1.1.1 1) fun u8 =>
    sel (decide (u7.1.1 = u8.1.1))
     (
     andK (impl_MulGf N u1.1.1 1) fun u9 =>
     sel (!(decide (u2.1.1 = u9.1.1)))
      (
      andK (impl_MulGf N u1.1.1 1) fun u10 =>
      some (((!(decide ((Go.bits .xor .i64 u2.1.1 255) = u10.1.1))), ()), ()))
      (
      some ((false, ()), ())))
     (
     some ((false, ()), ())))
    (
    some ((false, ()), ())))
   (
   some ((false, ()), ()))) := by kernel_rfl
set_option maxRecDepth 100000 in
theorem laws_FnSubstituted.say (N : Nat) : SayOk Try.prog (laws_FnSubstituted.S N) := sayOk_mk (N := N) (H := laws_FnSubstituted.H) (preps := [⟨[], [], []⟩]) (l := laws_FnSubstituted.says) (fn := Try.f7) (c := bodyOf Try.f7)
  (by kernel_rfl) (by kernel_rfl) (by kernel_rfl) (by kernel_rfl) (by kernel_rfl) (by kernel_rfl) (by kernel_rfl)
  (fun N => SayAll.cons (spec_DrawSubByte.say N) (SayAll.cons (impl_SubByte.say N) (SayAll.cons (spec_SubByte.say N) (SayAll.cons (impl_UnsubByte.say N) (SayAll.cons (impl_MulGf.say N) (SayAll.nil)))))) (fun a s => by kernel_rfl)

end Go.Proofs.Ytcggngmcaicdpaa.GFnSubstituted
